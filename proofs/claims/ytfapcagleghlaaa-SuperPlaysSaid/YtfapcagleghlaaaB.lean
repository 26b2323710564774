/- Contracts of the exact numbers: the greatest common divisor, products, the least common multiple. -/
import Derived.Test.YtfapcagleghlaaaA
set_option linter.all false
namespace Go.Proofs.Try
open Go Go.Sep

theorem mul_lt32 {x y : Int} (hx : 0 ≤ x) (hx' : x ≤ 4294967295) (hy : 0 ≤ y) (hy' : y ≤ 4294967295) : 0 ≤ x * y ∧ x * y ≤ 18446744065119617025 :=
  ⟨Int.mul_nonneg hx hy, by
    have h1 : x * y ≤ 4294967295 * y := Int.mul_le_mul_of_nonneg_right hx' hy
    have h2 : 4294967295 * y ≤ 4294967295 * 4294967295 := Int.mul_le_mul_of_nonneg_left hy' (by decide)
    omega⟩
theorem mul64_parts (x y : Int) : x * y = (x / 4294967296) * (y / 4294967296) * 18446744073709551616 + ((x / 4294967296) * (y % 4294967296) + (x % 4294967296) * (y / 4294967296)) * 4294967296 + (x % 4294967296) * (y % 4294967296) := by
  have hx : x = (x / 4294967296) * 4294967296 + x % 4294967296 := by omega
  have hy : y = (y / 4294967296) * 4294967296 + y % 4294967296 := by omega
  generalize x / 4294967296 = a at *
  generalize x % 4294967296 = b at *
  generalize y / 4294967296 = c at *
  generalize y % 4294967296 = d at *
  subst hx; subst hy
  grind
set_option maxRecDepth 4000 in
theorem mul64_calls (x y : Int) (hx : 0 ≤ x) (hx' : x ≤ 18446744073709551615) (hy : 0 ≤ y) (hy' : y ≤ 18446744073709551615) (hxy : x * y ≤ 18446744073709551615) :
    Pure 70 #[.int .u64 x, .int .u64 y] (.tuple #[.int .u64 0, .int .u64 (x * y)]) := by
  intro κ w C hH
  have hxy0 := Int.mul_nonneg hx hy
  have e := mul64_parts x y
  have a := mul_lt32 (x := x % 4294967296) (y := y % 4294967296) (by omega) (by omega) (by omega) (by omega)
  have b := mul_lt32 (x := x / 4294967296) (y := y % 4294967296) (by omega) (by omega) (by omega) (by omega)
  have c := mul_lt32 (x := x % 4294967296) (y := y / 4294967296) (by omega) (by omega) (by omega) (by omega)
  have d := mul_lt32 (x := x / 4294967296) (y := y / 4294967296) (by omega) (by omega) (by omega) (by omega)
  have e2 : x * y % 18446744073709551616 = x * y := Int.emod_eq_of_lt hxy0 (by omega)
  refine enter (args := [.int .u64 x, .int .u64 y]) Try.func70 rfl rfl ?_
  intro A hF
  refine wp_seq ?_
  refine wp_region_lit ?_
  refine ev0 [0, 0] tab hF hH rfl (by first | exact trivial | (simp only [All, inK_i64, inK_u64, inK_u32, inK_u8, inK_i32, max_i64, max_u64, IntKind.bits, Int.reduceToNat, Int.reduceAdd, Nat.reducePow, Int.reducePow, and_true, true_and, and_self] <;> omega)) ?_
  intro A w hF hH
  refine wpList_nil ?_
  refine wp_seq ?_
  refine wp_region_lit ?_
  refine ev0 [0, 0, 0] tab hF hH rfl (by first | exact trivial | (simp only [All, inK_i64, inK_u64, inK_u32, inK_u8, inK_i32, max_i64, max_u64, IntKind.bits, Int.reduceToNat, Int.reduceAdd, Nat.reducePow, Int.reducePow, and_true, true_and, and_self] <;> omega)) ?_
  intro A w hF hH
  try simp only [Int.reduceToNat, Int.reduceAdd, Nat.reducePow, Int.reducePow] at hF
  refine wpList_nil ?_
  refine wp_seq ?_
  refine wp_region_lit ?_
  refine ev0 [0, 0, 0] tab hF hH rfl (by first | exact trivial | (simp only [All, inK_i64, inK_u64, inK_u32, inK_u8, inK_i32, max_i64, max_u64, IntKind.bits, Int.reduceToNat, Int.reduceAdd, Nat.reducePow, Int.reducePow, and_true, true_and, and_self] <;> omega)) ?_
  intro A w hF hH
  try simp only [Int.reduceToNat, Int.reduceAdd, Nat.reducePow, Int.reducePow] at hF
  refine wpList_nil ?_
  refine wp_seq ?_
  refine wp_region_lit ?_
  refine ev0 [0, 0, 0] tab hF hH rfl (by first | exact trivial | (simp only [All, inK_i64, inK_u64, inK_u32, inK_u8, inK_i32, max_i64, max_u64, IntKind.bits, Int.reduceToNat, Int.reduceAdd, Nat.reducePow, Int.reducePow, and_true, true_and, and_self] <;> omega)) ?_
  intro A w hF hH
  try simp only [Int.reduceToNat, Int.reduceAdd, Nat.reducePow, Int.reducePow] at hF
  refine wpList_nil ?_
  refine wp_seq ?_
  refine wp_region_lit ?_
  refine ev0 [0, 0, 0] tab hF hH rfl (by first | exact trivial | (simp only [All, inK_i64, inK_u64, inK_u32, inK_u8, inK_i32, max_i64, max_u64, IntKind.bits, Int.reduceToNat, Int.reduceAdd, Nat.reducePow, Int.reducePow, and_true, true_and, and_self] <;> omega)) ?_
  intro A w hF hH
  try simp only [Int.reduceToNat, Int.reduceAdd, Nat.reducePow, Int.reducePow] at hF
  refine wpList_nil ?_
  refine wp_seq ?_
  refine wp_region_lit ?_
  generalize hA : x % 4294967296 * (y % 4294967296) = pA at *
  generalize hB : x / 4294967296 * (y % 4294967296) = pB at *
  generalize hC : x % 4294967296 * (y / 4294967296) = pC at *
  generalize hD : x / 4294967296 * (y / 4294967296) = pD at *
  have hw : IntKind.wrap .u64 (x * y) = x * y := wrap_in ((inK_u64 _).2 ⟨hxy0, hxy⟩)
  refine ev0 [0, 0, 0, 0] tab hF hH rfl (by first | exact trivial | (simp only [All, inK_i64, inK_u64, inK_u32, inK_u8, inK_i32, max_i64, max_u64, IntKind.bits, Int.reduceToNat, Int.reduceAdd, Nat.reducePow, Int.reducePow, and_true, true_and, and_self] <;> omega)) ?_
  intro A w hF hH
  try simp only [Int.reduceToNat, Int.reduceAdd, Nat.reducePow, Int.reducePow] at hF
  simp only [hA] at hF
  refine wpList_nil ?_
  refine wp_seq ?_
  refine wp_region_lit ?_
  refine ev0 [0, 0, 0, 0, 0, 0, 0] tab hF hH rfl (by first | exact trivial | (simp only [All, inK_i64, inK_u64, inK_u32, inK_u8, inK_i32, max_i64, max_u64, IntKind.bits, Int.reduceToNat, Int.reduceAdd, Nat.reducePow, Int.reducePow, and_true, true_and, and_self] <;> omega)) ?_
  intro A w hF hH
  try simp only [Int.reduceToNat, Int.reduceAdd, Nat.reducePow, Int.reducePow] at hF
  simp only [hB] at hF
  refine wpList_nil ?_
  refine wp_seq ?_
  refine wp_region_lit ?_
  refine ev0 [0, 0, 0] tab hF hH rfl (by first | exact trivial | (simp only [All, inK_i64, inK_u64, inK_u32, inK_u8, inK_i32, max_i64, max_u64, IntKind.bits, Int.reduceToNat, Int.reduceAdd, Nat.reducePow, Int.reducePow, and_true, true_and, and_self] <;> omega)) ?_
  intro A w hF hH
  try simp only [Int.reduceToNat, Int.reduceAdd, Nat.reducePow, Int.reducePow] at hF
  refine wpList_nil ?_
  refine wp_seq ?_
  refine wp_region_lit ?_
  refine ev0 [0, 0, 0] tab hF hH rfl (by first | exact trivial | (simp only [All, inK_i64, inK_u64, inK_u32, inK_u8, inK_i32, max_i64, max_u64, IntKind.bits, Int.reduceToNat, Int.reduceAdd, Nat.reducePow, Int.reducePow, and_true, true_and, and_self] <;> omega)) ?_
  intro A w hF hH
  try simp only [Int.reduceToNat, Int.reduceAdd, Nat.reducePow, Int.reducePow] at hF
  refine wpList_nil ?_
  refine wp_seq ?_
  refine wp_region_lit ?_
  refine ev0 [0, 0, 0, 0, 0, 0] tab hF hH rfl (by first | exact trivial | (simp only [All, inK_i64, inK_u64, inK_u32, inK_u8, inK_i32, max_i64, max_u64, IntKind.bits, Int.reduceToNat, Int.reduceAdd, Nat.reducePow, Int.reducePow, and_true, true_and, and_self] <;> omega)) ?_
  intro A w hF hH
  try simp only [Int.reduceToNat, Int.reduceAdd, Nat.reducePow, Int.reducePow] at hF
  simp only [hC] at hF
  refine wpList_nil ?_
  refine wp_seq ?_
  refine wp_region_lit ?_
  refine ev0 [0, 0, 0, 0, 0, 0, 0, 0, 0] tab hF hH rfl (by first | exact trivial | (simp only [All, inK_i64, inK_u64, inK_u32, inK_u8, inK_i32, max_i64, max_u64, IntKind.bits, Int.reduceToNat, Int.reduceAdd, Nat.reducePow, Int.reducePow, and_true, true_and, and_self] <;> omega)) ?_
  intro A w hF hH
  try simp only [Int.reduceToNat, Int.reduceAdd, Nat.reducePow, Int.reducePow] at hF
  simp only [hD] at hF
  refine wpList_nil ?_
  refine wp_seq ?_
  refine wp_region_lit ?_
  refine ev0 [0, 0, 1, 0] tab hF hH rfl (by first | exact trivial | (simp only [All, inK_i64, inK_u64, inK_u32, inK_u8, inK_i32, max_i64, max_u64, IntKind.bits, Int.reduceToNat, Int.reduceAdd, Nat.reducePow, Int.reducePow, and_true, true_and, and_self] <;> omega)) ?_
  intro A w hF hH
  simp only [hw] at hF
  refine wpList_nil ?_
  refine wp_ret ?_
  repeat (first | refine then_ret ?_ | refine blk_ret ?_ | refine ng_ret ?_)
  refine ret (M := []) (hs := []) tab hF hH rfl (by first | exact trivial | (simp only [All, inK_i64, inK_u64, inK_u32, inK_u8, inK_i32, max_i64, max_u64, IntKind.bits, Int.reduceToNat, Int.reduceAdd, Nat.reducePow, Int.reducePow, and_true, true_and, and_self] <;> omega)) ?_
  refine ⟨?_, hH⟩
  have hz : pD + (pB + pA / 4294967296) / 4294967296 + ((pB + pA / 4294967296) % 4294967296 + pC) / 4294967296 = 0 := by omega
  rw [hz]
  rfl
set_option maxRecDepth 20000 in
theorem size_calls (a : Int) (h0 : 0 ≤ a) (h1 : a ≤ 9223372036854775807) : Pure 71 #[.int .i64 a] (.int .u64 a) := by
  intro κ w C hH
  refine enter (args := [.int .i64 a]) Try.func71 rfl rfl ?_
  intro A hF
  refine wp_seq ?_
  refine wp_region_lit ?_
  refine ev0 [0] tab hF hH rfl (by first | exact trivial | (simp only [All, inK_i64, inK_u64, inK_u32, inK_u8, inK_i32, max_i64, max_u64, IntKind.bits, Int.reduceToNat, Int.reduceAdd, Nat.reducePow, Int.reducePow, and_true, true_and, and_self] <;> omega)) ?_
  intro A w hF hH
  refine wpList_nil ?_
  refine wp_seq ?_
  refine wp_seq ?_
  refine wp_region_lit ?_
  refine ev0 [0, 2] tab hF hH rfl (by first | exact trivial | (simp only [All, inK_i64, inK_u64, inK_u32, inK_u8, inK_i32, max_i64, max_u64, IntKind.bits, Int.reduceToNat, Int.reduceAdd, Nat.reducePow, Int.reducePow, and_true, true_and, and_self] <;> omega)) ?_
  intro A w hF hH
  refine wpList_nil ?_
  refine cond_f hF rfl rfl ?_
  refine wp_skip ?_
  refine wp_seq ?_
  refine wp_region_lit ?_
  refine ev0 [0, 0, 0] tab hF hH rfl (by first | exact trivial | (simp only [All, inK_i64, inK_u64, inK_u32, inK_u8, inK_i32, max_i64, max_u64, IntKind.bits, Int.reduceToNat, Int.reduceAdd, Nat.reducePow, Int.reducePow, and_true, true_and, and_self] <;> omega)) ?_
  intro A w hF hH
  refine wpList_nil ?_
  refine wp_ret ?_
  repeat (first | refine then_ret ?_ | refine blk_ret ?_ | refine ng_ret ?_)
  refine ret (M := []) (hs := []) tab hF hH rfl (by first | exact trivial | (simp only [All, inK_i64, inK_u64, inK_u32, inK_u8, inK_i32, max_i64, max_u64, IntKind.bits, Int.reduceToNat, Int.reduceAdd, Nat.reducePow, Int.reducePow, and_true, true_and, and_self] <;> omega)) ?_
  exact ⟨rfl, hH⟩
set_option maxRecDepth 20000 in
theorem mul_calls (a b : Int) (ha : 0 ≤ a) (ha' : a ≤ 9223372036854775807) (hb : 0 ≤ b) (hb' : b ≤ 9223372036854775807) (hab : a * b ≤ 9223372036854775807) :
    Pure 54 #[.int .i64 a, .int .i64 b] (.tuple #[.int .i64 (a * b), .int .i64 0]) := by
  intro κ w C hH
  have hab0 := Int.mul_nonneg ha hb
  refine enter (args := [.int .i64 a, .int .i64 b]) Try.func54 rfl rfl ?_
  intro A hF
  refine wp_seq ?_
  refine wp_region_lit ?_
  refine ev0 [0, 0] tab hF hH rfl (by first | exact trivial | (simp only [All, inK_i64, inK_u64, inK_u32, inK_u8, inK_i32, max_i64, max_u64, IntKind.bits, Int.reduceToNat, Int.reduceAdd, Nat.reducePow, Int.reducePow, and_true, true_and, and_self] <;> omega)) ?_
  intro A w hF hH
  refine wpList_nil ?_
  refine wp_seq ?_
  refine wp_region_lit ?_
  refine ev0 [0] tab hF hH rfl (by first | exact trivial | (simp only [All, inK_i64, inK_u64, inK_u32, inK_u8, inK_i32, max_i64, max_u64, IntKind.bits, Int.reduceToNat, Int.reduceAdd, Nat.reducePow, Int.reducePow, and_true, true_and, and_self] <;> omega)) ?_
  intro A w hF hH
  refine list_act hF rfl ?_
  refine op_call hF rfl rfl rfl rfl rfl rfl isF71 (size_calls a ha ha' _ _ _ hH) ?_
  rintro e w ⟨rfl, hH⟩
  refine ⟨_, rfl, fun A hF => ?_⟩
  refine ev0 [0] tab hF hH rfl (by first | exact trivial | (simp only [All, inK_i64, inK_u64, inK_u32, inK_u8, inK_i32, max_i64, max_u64, IntKind.bits, Int.reduceToNat, Int.reduceAdd, Nat.reducePow, Int.reducePow, and_true, true_and, and_self] <;> omega)) ?_
  intro A w hF hH
  refine list_act hF rfl ?_
  refine op_call hF rfl rfl rfl rfl rfl rfl isF71 (size_calls b hb hb' _ _ _ hH) ?_
  rintro e w ⟨rfl, hH⟩
  refine ⟨_, rfl, fun A hF => ?_⟩
  refine list_act hF rfl ?_
  refine op_call hF rfl rfl rfl rfl rfl rfl isF70 (mul64_calls a b ha (by omega) hb (by omega) (by omega) _ _ _ hH) ?_
  rintro e w ⟨rfl, hH⟩
  refine ⟨_, rfl, fun A hF => ?_⟩
  refine ev0 [0, 0, 0, 0, 0] tab hF hH rfl (by first | exact trivial | (simp only [All, inK_i64, inK_u64, inK_u32, inK_u8, inK_i32, max_i64, max_u64, IntKind.bits, Int.reduceToNat, Int.reduceAdd, Nat.reducePow, Int.reducePow, and_true, true_and, and_self] <;> omega)) ?_
  intro A w hF hH
  refine wpList_nil ?_
  refine wp_seq ?_
  refine wp_region_lit ?_
  refine ev0 [0, 2, 0, 2, 2, 0] tab hF hH rfl (by first | exact trivial | (simp only [All, inK_i64, inK_u64, inK_u32, inK_u8, inK_i32, max_i64, max_u64, IntKind.bits, Int.reduceToNat, Int.reduceAdd, Nat.reducePow, Int.reducePow, and_true, true_and, and_self] <;> omega)) ?_
  intro A w hF hH
  refine wpList_nil ?_
  refine wp_seq ?_
  refine wp_region_lit ?_
  refine ev0 [0] tab hF hH rfl (by first | exact trivial | (simp only [All, inK_i64, inK_u64, inK_u32, inK_u8, inK_i32, max_i64, max_u64, IntKind.bits, Int.reduceToNat, Int.reduceAdd, Nat.reducePow, Int.reducePow, and_true, true_and, and_self] <;> omega)) ?_
  intro A w hF hH
  refine wpList_nil ?_
  refine wp_seq ?_
  refine wp_seq ?_
  refine wp_region_lit ?_
  refine ev0 [0] tab hF hH rfl (by first | exact trivial | (simp only [All, inK_i64, inK_u64, inK_u32, inK_u8, inK_i32, max_i64, max_u64, IntKind.bits, Int.reduceToNat, Int.reduceAdd, Nat.reducePow, Int.reducePow, and_true, true_and, and_self] <;> omega)) ?_
  intro A w hF hH
  refine wpList_nil ?_
  refine cond_f hF rfl rfl ?_
  refine wp_skip ?_
  refine wp_seq ?_
  refine wp_seq ?_
  refine wp_region_lit ?_
  refine ev0 [0, 2, 0, 0, 0, 2, 0] tab hF hH rfl (by first | exact trivial | (simp only [All, inK_i64, inK_u64, inK_u32, inK_u8, inK_i32, max_i64, max_u64, IntKind.bits, Int.reduceToNat, Int.reduceAdd, Nat.reducePow, Int.reducePow, and_true, true_and, and_self] <;> omega)) ?_
  intro A w hF hH
  refine wpList_nil ?_
  refine cond_f hF rfl rfl ?_
  refine wp_skip ?_
  refine wp_seq ?_
  refine wp_seq ?_
  refine wp_region_lit ?_
  refine ev0 [0] tab hF hH rfl (by first | exact trivial | (simp only [All, inK_i64, inK_u64, inK_u32, inK_u8, inK_i32, max_i64, max_u64, IntKind.bits, Int.reduceToNat, Int.reduceAdd, Nat.reducePow, Int.reducePow, and_true, true_and, and_self] <;> omega)) ?_
  intro A w hF hH
  refine wpList_nil ?_
  refine cond_f hF rfl rfl ?_
  refine wp_skip ?_
  refine wp_seq ?_
  refine wp_region_lit ?_
  refine ev0 [0, 0, 0, 0] tab hF hH rfl (by first | exact trivial | (simp only [All, inK_i64, inK_u64, inK_u32, inK_u8, inK_i32, max_i64, max_u64, IntKind.bits, Int.reduceToNat, Int.reduceAdd, Nat.reducePow, Int.reducePow, and_true, true_and, and_self] <;> omega)) ?_
  intro A w hF hH
  refine wpList_nil ?_
  refine wp_ret ?_
  repeat (first | refine then_ret ?_ | refine blk_ret ?_ | refine ng_ret ?_)
  refine ret (M := []) (hs := []) tab hF hH rfl (by first | exact trivial | (simp only [All, inK_i64, inK_u64, inK_u32, inK_u8, inK_i32, max_i64, max_u64, IntKind.bits, Int.reduceToNat, Int.reduceAdd, Nat.reducePow, Int.reducePow, and_true, true_and, and_self] <;> omega)) ?_
  exact ⟨rfl, hH⟩
theorem gcd_mod' (p q : Int) : Int.gcd q (p % q) = Int.gcd p q := by
  rw [Int.emod_def, Int.gcd_sub_mul_left_right, Int.gcd_comm]
set_option maxRecDepth 20000 in
theorem gcd_calls (a b : Int) (h0 : 0 ≤ a) (h1 : 0 ≤ b) : Pure 53 #[.int .i64 a, .int .i64 b] (.tuple #[.int .i64 (Int.gcd a b), .int .i64 0]) := by
  intro κ w C hH
  refine enter (args := [.int .i64 a, .int .i64 b]) Try.func53 rfl rfl ?_
  intro A hF
  refine wp_seq ?_
  refine wp_region_lit ?_
  refine ev0 [0, 0] tab hF hH rfl (by first | exact trivial | (simp only [All, inK_i64, inK_u64, inK_u32, inK_u8, inK_i32, max_i64, max_u64, IntKind.bits, Int.reduceToNat, Int.reduceAdd, Nat.reducePow, Int.reducePow, and_true, true_and, and_self] <;> omega)) ?_
  intro A w hF hH
  refine wpList_nil ?_
  refine wp_seq ?_
  refine wp_seq ?_
  refine wp_region_lit ?_
  refine ev0 [0, 2, 0, 0, 2, 0] tab hF hH rfl (by first | exact trivial | (simp only [All, inK_i64, inK_u64, inK_u32, inK_u8, inK_i32, max_i64, max_u64, IntKind.bits, Int.reduceToNat, Int.reduceAdd, Nat.reducePow, Int.reducePow, and_true, true_and, and_self] <;> omega)) ?_
  intro A w hF hH
  refine wpList_nil ?_
  refine cond_f hF rfl rfl ?_
  refine wp_skip ?_
  refine wp_seq ?_
  refine wp_block ?_
  refine loop_j (fun (p : Int × Int) A w => 0 ≤ p.1 ∧ 0 ≤ p.2 ∧ Int.gcd p.1 p.2 = Int.gcd a b ∧ Fr 19 A [(0, .int .i64 p.1), (1, .int .i64 p.2)] ∧ Hp κ w C) (fun p => p.2.toNat) (a, b) ⟨h0, h1, rfl, Fr.to hF ⟨rfl, rfl, trivial⟩, hH⟩ ?_
  rintro ⟨p, q⟩ A w ⟨hp, hq, hg, hF, hH⟩
  simp only at hp hq hg hF
  refine wp_seq ?_
  refine wp_seq ?_
  refine wp_region_lit ?_
  by_cases hz : q = 0
  · refine ev0 [0, 2] tab hF hH rfl (by first | exact trivial | (simp only [All, inK_i64, inK_u64, inK_u32, inK_u8, inK_i32, max_i64, max_u64, IntKind.bits, Int.reduceToNat, Int.reduceAdd, Nat.reducePow, Int.reducePow, and_true, true_and, and_self] <;> omega)) ?_
    intro A w hF hH
    refine wpList_nil ?_
    refine cond_f hF rfl rfl ?_
    refine wp_exit ?_
    repeat (first | refine then_exit ?_ | refine ng_exit ?_ | refine blk_exit ?_ | refine blk_exit_ne rfl ?_)
    refine wp_seq ?_
    refine wp_region_lit ?_
    refine ev0 [0, 0, 0] tab hF hH rfl (by first | exact trivial | (simp only [All, inK_i64, inK_u64, inK_u32, inK_u8, inK_i32, max_i64, max_u64, IntKind.bits, Int.reduceToNat, Int.reduceAdd, Nat.reducePow, Int.reducePow, and_true, true_and, and_self] <;> omega)) ?_
    intro A w hF hH
    refine wpList_nil ?_
    refine wp_ret ?_
    repeat (first | refine then_ret ?_ | refine blk_ret ?_ | refine ng_ret ?_)
    refine ret (M := []) (hs := []) tab hF hH rfl (by first | exact trivial | (simp only [All, inK_i64, inK_u64, inK_u32, inK_u8, inK_i32, max_i64, max_u64, IntKind.bits, Int.reduceToNat, Int.reduceAdd, Nat.reducePow, Int.reducePow, and_true, true_and, and_self] <;> omega)) ?_
    refine ⟨?_, hH⟩
    subst hz
    have : p = (a.gcd b : Int) := by rw [← hg, Int.gcd_zero_right]; omega
    rw [← this]; rfl
  · skip
    refine ev0 [0, 1] tab hF hH rfl (by first | exact trivial | (simp only [All, inK_i64, inK_u64, inK_u32, inK_u8, inK_i32, max_i64, max_u64, IntKind.bits, Int.reduceToNat, Int.reduceAdd, Nat.reducePow, Int.reducePow, and_true, true_and, and_self] <;> omega)) ?_
    intro A w hF hH
    refine wpList_nil ?_
    refine cond_t hF rfl rfl ?_
    refine wp_skip ?_
    refine wp_block ?_
    refine dr_all (by kernel_rfl) [] [] [(0, 0), (1, 0), (2, 0), (3, 0), (4, 0), (5, 0)] tab (LFok.nil _ _) (by kernel_rfl) rfl hF hH (by kernel_rfl) (by kernel_rfl) rfl (by first | exact trivial | (simp only [All, inK_i64, inK_u64, inK_u32, inK_u8, inK_i32, max_i64, max_u64, IntKind.bits, Int.reduceToNat, Int.reduceAdd, Nat.reducePow, Int.reducePow, and_true, true_and, and_self] <;> omega)) ?_
    intro A w hF hH
    refine ⟨(q, p % q), ⟨hq, Int.emod_nonneg _ hz, ?_, Fr.to hF ⟨rfl, rfl, trivial⟩, hH⟩, ?_⟩
    · rw [← hg]; exact gcd_mod' p q
    · have := Int.emod_lt_of_pos p (show 0 < q by omega)
      have := Int.emod_nonneg p hz
      simp only; omega
/-- Least common multiples, one by one, none too great. -/
def LcmOk : Int → List Int → Prop
  | _, [] => True
  | m, n :: ns => 1 ≤ n ∧ n ≤ 9223372036854775807 ∧ m / (Int.gcd m n : Int) * n ≤ 9223372036854775807 ∧ LcmOk (m / (Int.gcd m n : Int) * n) ns
def lcmF : Int → List Int → Int
  | m, [] => m
  | m, n :: ns => lcmF (m / (Int.gcd m n : Int) * n) ns
theorem gcd_pos' {m n : Int} (hn : 1 ≤ n) : (1 : Int) ≤ (Int.gcd m n : Int) := by
  have : 0 < Int.gcd m n := Int.gcd_pos_of_ne_zero_right m (by omega)
  omega
theorem gcd_le' {m n : Int} (hm : 1 ≤ m) : (Int.gcd m n : Int) ≤ m := Int.le_of_dvd (by omega) (Int.gcd_dvd_left ..)
theorem lcm_step {m n : Int} (hm : 1 ≤ m) (hn : 1 ≤ n) : 1 ≤ m / (Int.gcd m n : Int) ∧ m / (Int.gcd m n : Int) ≤ m ∧ 1 ≤ m / (Int.gcd m n : Int) * n := by
  have h1 := gcd_pos' (m := m) hn
  have h2 := gcd_le' (n := n) hm
  have h3 : 1 ≤ m / (Int.gcd m n : Int) := (Int.le_ediv_iff_mul_le (by omega)).2 (by omega)
  have h4 : m / (Int.gcd m n : Int) ≤ m := Int.ediv_le_self _ (by omega)
  have h5 : 1 * 1 ≤ m / (Int.gcd m n : Int) * n := Int.mul_le_mul h3 hn (by decide) (by omega)
  exact ⟨h3, h4, by omega⟩
def e64 (n : Int) : List Value := [.int .i64 n]
set_option maxRecDepth 20000 in
theorem lcm_calls (κ : K) (X : List HP) (v : Value) (ns : List Int) (hv : Rd κ X 1 e64 v ns) (hl : ns.length ≤ 9223372036854775807) (hok : LcmOk 1 ns) (w : World) (C : List HP) (hH : Hp κ w (X ++ C)) :
    Calls Try.prog 26 #[v] w (fun e w' => e = .returned (.tuple #[.int .i64 (lcmF 1 ns), .int .i64 0]) ∧ Hp κ w' (X ++ C)) := by
  obtain ⟨A0, cap, rfl, hcap⟩ := hv.form
  refine enter (args := [.slice A0 ns.length cap]) Try.func26 rfl rfl ?_
  intro A hF
  refine wp_seq ?_
  refine wp_region_lit ?_
  refine ev0 [0, 0] tab hF hH rfl (by first | exact trivial | (simp only [All, inK_i64, inK_u64, inK_u32, inK_u8, inK_i32, max_i64, max_u64, IntKind.bits, Int.reduceToNat, Int.reduceAdd, Nat.reducePow, Int.reducePow, and_true, true_and, and_self] <;> omega)) ?_
  intro A w hF hH
  refine wpList_nil ?_
  refine wp_scope_straight ?_
  refine wp_seq ?_
  refine wp_region_lit ?_
  refine ev0 [0] tab hF hH rfl (by first | exact trivial | (simp only [All, inK_i64, inK_u64, inK_u32, inK_u8, inK_i32, max_i64, max_u64, IntKind.bits, Int.reduceToNat, Int.reduceAdd, Nat.reducePow, Int.reducePow, and_true, true_and, and_self] <;> omega)) ?_
  intro A w hF hH
  refine wpList_nil ?_
  refine wp_seq ?_
  refine wp_region_lit ?_
  refine ev0 [0] tab hF hH rfl (by first | exact trivial | (simp only [All, inK_i64, inK_u64, inK_u32, inK_u8, inK_i32, max_i64, max_u64, IntKind.bits, Int.reduceToNat, Int.reduceAdd, Nat.reducePow, Int.reducePow, and_true, true_and, and_self] <;> omega)) ?_
  intro A w hF hH
  refine wpList_nil ?_
  refine wp_seq ?_
  refine wp_label ?_
  refine wp_seq ?_
  refine wp_seq ?_
  refine wp_region_lit ?_
  refine ev0 [0, 0, 0] tab hF hH rfl (by first | exact trivial | (simp only [All, inK_i64, inK_u64, inK_u32, inK_u8, inK_i32, max_i64, max_u64, IntKind.bits, Int.reduceToNat, Int.reduceAdd, Nat.reducePow, Int.reducePow, and_true, true_and, and_self] <;> omega)) ?_
  intro A w hF hH
  refine wpList_nil ?_
  refine wp_block ?_
  refine loop_j (fun (i : Nat) A w => i ≤ ns.length ∧ ∃ m, 1 ≤ m ∧ m ≤ 9223372036854775807 ∧ LcmOk m (ns.drop i) ∧ lcmF m (ns.drop i) = lcmF 1 ns ∧ Fr 39 A [(10, .slice A0 ns.length cap), (11, .int .i64 ns.length), (12, .int .i64 i), (4, .int .i64 m), (5, .int .i64 0)] ∧ Hp κ w (X ++ C)) (fun i => ns.length - i) 0 ⟨Nat.zero_le _, 1, by omega, by omega, hok, rfl, Fr.to hF ⟨rfl, rfl, rfl, rfl, rfl, trivial⟩, hH⟩ ?_
  rintro i A w ⟨hi, m, hm, hm', hok, hlc, hF, hH⟩
  refine wp_seq ?_
  refine wp_region_lit ?_
  by_cases hlt : i < ns.length
  · refine ev0 [1] tab hF hH rfl (by first | exact trivial | (simp only [All, inK_i64, inK_u64, inK_u32, inK_u8, inK_i32, max_i64, max_u64, IntKind.bits, Int.reduceToNat, Int.reduceAdd, Nat.reducePow, Int.reducePow, and_true, true_and, and_self] <;> omega)) ?_
    intro A w hF hH
    refine wpList_nil ?_
    refine wp_seq ?_
    refine cond_t hF rfl rfl ?_
    refine wp_skip ?_
    refine wp_seq ?_
    refine wp_block ?_
    refine wp_seq ?_
    refine wp_region_lit ?_
    obtain ⟨b, off, rfl⟩ := hv.addr (by omega)
    have hd : ns.drop i = ns[i] :: ns.drop (i + 1) := by rw [List.drop_eq_getElem_cons hlt]
    rw [hd] at hok hlc
    obtain ⟨hn, hn', hmn, hok⟩ := hok
    have hs := lcm_step hm hn
    have hg := gcd_pos' (m := m) hn
    have hg' := gcd_le' (n := ns[i]) hm
    refine evF [] X (LFok.cons (hv.at_ (fun x _ => rfl) i hlt) (LFok.nil _ _)) [0, 1, 0] tab hF hH rfl (by first | exact trivial | (simp only [All, inK_i64, inK_u64, inK_u32, inK_u8, inK_i32, max_i64, max_u64, IntKind.bits, Int.reduceToNat, Int.reduceAdd, Nat.reducePow, Int.reducePow, and_true, true_and, and_self] <;> omega)) ?_
    intro A w hF hH
    refine wpList_nil ?_
    refine wp_seq ?_
    refine wp_seq ?_
    refine wp_region_lit ?_
    refine ev0 [0, 2] tab hF hH rfl (by first | exact trivial | (simp only [All, inK_i64, inK_u64, inK_u32, inK_u8, inK_i32, max_i64, max_u64, IntKind.bits, Int.reduceToNat, Int.reduceAdd, Nat.reducePow, Int.reducePow, and_true, true_and, and_self] <;> omega)) ?_
    intro A w hF hH
    refine wpList_nil ?_
    refine cond_f hF rfl rfl ?_
    refine wp_skip ?_
    refine wp_seq ?_
    refine wp_region_lit ?_
    refine ev0 [0, 0] tab hF hH rfl (by first | exact trivial | (simp only [All, inK_i64, inK_u64, inK_u32, inK_u8, inK_i32, max_i64, max_u64, IntKind.bits, Int.reduceToNat, Int.reduceAdd, Nat.reducePow, Int.reducePow, and_true, true_and, and_self] <;> omega)) ?_
    intro A w hF hH
    refine list_act hF rfl ?_
    refine op_call hF rfl rfl rfl rfl rfl rfl isF53 (gcd_calls m ns[i] (by omega) (by omega) _ _ _ hH) ?_
    rintro e w ⟨rfl, hH⟩
    refine ⟨_, rfl, fun A hF => ?_⟩
    refine ev0 [0, 0, 0, 0, 0] tab hF hH rfl (by first | exact trivial | (simp only [All, inK_i64, inK_u64, inK_u32, inK_u8, inK_i32, max_i64, max_u64, IntKind.bits, Int.reduceToNat, Int.reduceAdd, Nat.reducePow, Int.reducePow, and_true, true_and, and_self] <;> omega)) ?_
    intro A w hF hH
    refine wpList_nil ?_
    refine wp_seq ?_
    refine wp_region_lit ?_
    refine ev0 [0, 0, 0, 0] tab hF hH rfl (by first | exact trivial | (simp only [All, inK_i64, inK_u64, inK_u32, inK_u8, inK_i32, max_i64, max_u64, IntKind.bits, Int.reduceToNat, Int.reduceAdd, Nat.reducePow, Int.reducePow, and_true, true_and, and_self] <;> omega)) ?_
    intro A w hF hH
    refine list_act hF rfl ?_
    refine op_call hF rfl rfl rfl rfl rfl rfl isF54 (mul_calls _ _ (by omega) (by omega) (by omega) hn' hmn _ _ _ hH) ?_
    rintro e w ⟨rfl, hH⟩
    refine ⟨_, rfl, fun A hF => ?_⟩
    refine ev0 [0, 0, 0, 0, 0] tab hF hH rfl (by first | exact trivial | (simp only [All, inK_i64, inK_u64, inK_u32, inK_u8, inK_i32, max_i64, max_u64, IntKind.bits, Int.reduceToNat, Int.reduceAdd, Nat.reducePow, Int.reducePow, and_true, true_and, and_self] <;> omega)) ?_
    intro A w hF hH
    refine wpList_nil ?_
    refine wp_seq ?_
    refine wp_region_lit ?_
    refine ev0 [0, 2] tab hF hH rfl (by first | exact trivial | (simp only [All, inK_i64, inK_u64, inK_u32, inK_u8, inK_i32, max_i64, max_u64, IntKind.bits, Int.reduceToNat, Int.reduceAdd, Nat.reducePow, Int.reducePow, and_true, true_and, and_self] <;> omega)) ?_
    intro A w hF hH
    refine wpList_nil ?_
    refine cond_f hF rfl rfl ?_
    refine wp_skip ?_
    refine wp_region_lit ?_
    refine ev0 [0, 0] tab hF hH rfl (by first | exact trivial | (simp only [All, inK_i64, inK_u64, inK_u32, inK_u8, inK_i32, max_i64, max_u64, IntKind.bits, Int.reduceToNat, Int.reduceAdd, Nat.reducePow, Int.reducePow, and_true, true_and, and_self] <;> omega)) ?_
    intro A w hF hH
    refine wpList_nil ?_
    refine ⟨i + 1, ⟨by omega, _, hs.2.2, hmn, hok, hlc, Fr.to hF ⟨rfl, rfl, rfl, rfl, rfl, trivial⟩, hH⟩, by omega⟩
  · skip
    refine ev0 [2] tab hF hH rfl (by first | exact trivial | (simp only [All, inK_i64, inK_u64, inK_u32, inK_u8, inK_i32, max_i64, max_u64, IntKind.bits, Int.reduceToNat, Int.reduceAdd, Nat.reducePow, Int.reducePow, and_true, true_and, and_self] <;> omega)) ?_
    intro A w hF hH
    refine wpList_nil ?_
    refine wp_seq ?_
    refine cond_f hF rfl rfl ?_
    refine wp_exit ?_
    repeat (first | refine then_exit ?_ | refine ng_exit ?_ | refine blk_exit ?_ | refine blk_exit_ne rfl ?_)
    refine wp_seq ?_
    refine wp_seq ?_
    refine wp_region_lit ?_
    have hd : ns.drop i = [] := List.drop_eq_nil_of_le (by omega)
    rw [hd] at hlc
    simp only [lcmF] at hlc
    refine ev0 [0, 2] tab hF hH rfl (by first | exact trivial | (simp only [All, inK_i64, inK_u64, inK_u32, inK_u8, inK_i32, max_i64, max_u64, IntKind.bits, Int.reduceToNat, Int.reduceAdd, Nat.reducePow, Int.reducePow, and_true, true_and, and_self] <;> omega)) ?_
    intro A w hF hH
    refine wpList_nil ?_
    refine cond_f hF rfl rfl ?_
    refine wp_skip ?_
    refine wp_seq ?_
    refine wp_region_lit ?_
    refine ev0 [0, 0, 0] tab hF hH rfl (by first | exact trivial | (simp only [All, inK_i64, inK_u64, inK_u32, inK_u8, inK_i32, max_i64, max_u64, IntKind.bits, Int.reduceToNat, Int.reduceAdd, Nat.reducePow, Int.reducePow, and_true, true_and, and_self] <;> omega)) ?_
    intro A w hF hH
    refine wpList_nil ?_
    refine wp_ret ?_
    repeat (first | refine then_ret ?_ | refine blk_ret ?_ | refine ng_ret ?_)
    refine ret (M := []) (hs := []) tab hF hH rfl (by first | exact trivial | (simp only [All, inK_i64, inK_u64, inK_u32, inK_u8, inK_i32, max_i64, max_u64, IntKind.bits, Int.reduceToNat, Int.reduceAdd, Nat.reducePow, Int.reducePow, and_true, true_and, and_self] <;> omega)) ?_
    exact ⟨by rw [hlc]; rfl, hH⟩
end Go.Proofs.Try
