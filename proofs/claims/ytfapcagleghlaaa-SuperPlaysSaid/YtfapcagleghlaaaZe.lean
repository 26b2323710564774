/- The document's supertask: weights, a new one; rows compared. -/
import Derived.Test.YtfapcagleghlaaaZd
set_option linter.all false
namespace Go.Proofs.Try
open Go Go.Sep

section
variable {κ : K} {w : World} {C : List HP}
set_option maxRecDepth 20000 in
theorem rgcd_calls (n : Nat) : ∀ (κ : K) (w : World) (C : List HP) (a b : Int), 0 ≤ a → 0 ≤ b → b.toNat ≤ n → Hp κ w C → Calls Try.prog 67 #[.int .i64 a, .int .i64 b] w (fun e w' => e = .returned (.tuple #[.int .i64 (Int.gcd a b), .int .i64 0]) ∧ Hp κ w' C) := by
  induction n with
  | zero =>
    intro κ w C a b ha hb hn hH
    have hb0 : b = 0 := by omega
    subst hb0
    refine enter (args := [.int .i64 a, .int .i64 0]) Try.func67 rfl rfl ?_
    intro A hF
    refine wp_seq ?_
    refine wp_region_lit ?_
    refine ev0 [0, 0] tab hF hH rfl (by first | exact trivial | (simp only [All, inK_i64, inK_u64, inK_u32, inK_u8, inK_i32, max_i64, max_u64, IntKind.bits, Int.reduceToNat, Int.reduceAdd, Nat.reducePow, Int.reducePow, and_true, true_and, and_self] <;> omega)) ?_
    intro A w hF hH
    refine wpList_nil ?_
    refine wp_seq ?_
    refine wp_seq ?_
    refine wp_region_lit ?_
    refine ev0 [0, 2, 0, 0, 2, 0] tab hF hH rfl (by first | exact trivial | (simp only [All, inK_i64, inK_u64, inK_u32, inK_u8, inK_i32, max_i64, max_u64, IntKind.bits, Int.reduceToNat, Int.reduceAdd, Nat.reducePow, Int.reducePow, and_true, true_and, and_self] <;> omega)) ?_
    intro A w hF hH
    refine wpList_nil ?_
    refine cond_f hF rfl rfl ?_
    refine wp_skip ?_
    refine wp_seq ?_
    refine wp_seq ?_
    refine wp_region_lit ?_
    refine ev0 [0, 1] tab hF hH rfl (by first | exact trivial | (simp only [All, inK_i64, inK_u64, inK_u32, inK_u8, inK_i32, max_i64, max_u64, IntKind.bits, Int.reduceToNat, Int.reduceAdd, Nat.reducePow, Int.reducePow, and_true, true_and, and_self] <;> omega)) ?_
    intro A w hF hH
    refine wpList_nil ?_
    refine cond_t hF rfl rfl ?_
    refine wp_seq ?_
    refine wp_region_lit ?_
    refine ev0 [0, 0, 0] tab hF hH rfl (by first | exact trivial | (simp only [All, inK_i64, inK_u64, inK_u32, inK_u8, inK_i32, max_i64, max_u64, IntKind.bits, Int.reduceToNat, Int.reduceAdd, Nat.reducePow, Int.reducePow, and_true, true_and, and_self] <;> omega)) ?_
    intro A w hF hH
    refine wpList_nil ?_
    refine wp_ret ?_
    repeat (first | refine then_ret ?_ | refine blk_ret ?_ | refine ng_ret ?_)
    refine ret (M := []) (hs := []) tab hF hH rfl (by first | exact trivial | (simp only [All, inK_i64, inK_u64, inK_u32, inK_u8, inK_i32, max_i64, max_u64, IntKind.bits, Int.reduceToNat, Int.reduceAdd, Nat.reducePow, Int.reducePow, and_true, true_and, and_self] <;> omega)) ?_
    have : a = (Int.gcd a 0 : Int) := by rw [Int.gcd_zero_right]; omega
    exact ⟨by rw [← this]; rfl, hH⟩
  | succ n ih =>
    intro κ w C a b ha hb hn hH
    refine enter (args := [.int .i64 a, .int .i64 b]) Try.func67 rfl rfl ?_
    intro A hF
    refine wp_seq ?_
    refine wp_region_lit ?_
    refine ev0 [0, 0] tab hF hH rfl (by first | exact trivial | (simp only [All, inK_i64, inK_u64, inK_u32, inK_u8, inK_i32, max_i64, max_u64, IntKind.bits, Int.reduceToNat, Int.reduceAdd, Nat.reducePow, Int.reducePow, and_true, true_and, and_self] <;> omega)) ?_
    intro A w hF hH
    refine wpList_nil ?_
    refine wp_seq ?_
    refine wp_seq ?_
    refine wp_region_lit ?_
    by_cases hb0 : b = 0
    · refine ev0 [0, 2, 0, 0, 2, 0] tab hF hH rfl (by first | exact trivial | (simp only [All, inK_i64, inK_u64, inK_u32, inK_u8, inK_i32, max_i64, max_u64, IntKind.bits, Int.reduceToNat, Int.reduceAdd, Nat.reducePow, Int.reducePow, and_true, true_and, and_self] <;> omega)) ?_
      intro A w hF hH
      refine wpList_nil ?_
      refine cond_f hF rfl rfl ?_
      refine wp_skip ?_
      refine wp_seq ?_
      refine wp_seq ?_
      refine wp_region_lit ?_
      refine ev0 [0, 1] tab hF hH rfl (by first | exact trivial | (simp only [All, inK_i64, inK_u64, inK_u32, inK_u8, inK_i32, max_i64, max_u64, IntKind.bits, Int.reduceToNat, Int.reduceAdd, Nat.reducePow, Int.reducePow, and_true, true_and, and_self] <;> omega)) ?_
      intro A w hF hH
      refine wpList_nil ?_
      refine cond_t hF rfl rfl ?_
      refine wp_seq ?_
      refine wp_region_lit ?_
      refine ev0 [0, 0, 0] tab hF hH rfl (by first | exact trivial | (simp only [All, inK_i64, inK_u64, inK_u32, inK_u8, inK_i32, max_i64, max_u64, IntKind.bits, Int.reduceToNat, Int.reduceAdd, Nat.reducePow, Int.reducePow, and_true, true_and, and_self] <;> omega)) ?_
      intro A w hF hH
      refine wpList_nil ?_
      refine wp_ret ?_
      repeat (first | refine then_ret ?_ | refine blk_ret ?_ | refine ng_ret ?_)
      refine ret (M := []) (hs := []) tab hF hH rfl (by first | exact trivial | (simp only [All, inK_i64, inK_u64, inK_u32, inK_u8, inK_i32, max_i64, max_u64, IntKind.bits, Int.reduceToNat, Int.reduceAdd, Nat.reducePow, Int.reducePow, and_true, true_and, and_self] <;> omega)) ?_
      subst hb0
      have : a = (Int.gcd a 0 : Int) := by rw [Int.gcd_zero_right]; omega
      exact ⟨by rw [← this]; rfl, hH⟩
    · skip
      have h1 := Int.emod_nonneg a hb0
      have h2 := Int.emod_lt_of_pos a (show 0 < b by omega)
      have h3 := gcd_mod' a b
      rw [Int.gcd_comm a b] at h3
      refine ev0 [0, 2, 0, 0, 2, 0] tab hF hH rfl (by first | exact trivial | (simp only [All, inK_i64, inK_u64, inK_u32, inK_u8, inK_i32, max_i64, max_u64, IntKind.bits, Int.reduceToNat, Int.reduceAdd, Nat.reducePow, Int.reducePow, and_true, true_and, and_self] <;> omega)) ?_
      intro A w hF hH
      refine wpList_nil ?_
      refine cond_f hF rfl rfl ?_
      refine wp_skip ?_
      refine wp_seq ?_
      refine wp_seq ?_
      refine wp_region_lit ?_
      refine ev0 [0, 2] tab hF hH rfl (by first | exact trivial | (simp only [All, inK_i64, inK_u64, inK_u32, inK_u8, inK_i32, max_i64, max_u64, IntKind.bits, Int.reduceToNat, Int.reduceAdd, Nat.reducePow, Int.reducePow, and_true, true_and, and_self] <;> omega)) ?_
      intro A w hF hH
      refine wpList_nil ?_
      refine cond_f hF rfl rfl ?_
      refine wp_skip ?_
      refine wp_seq ?_
      refine wp_region_lit ?_
      refine ev0 [0, 0, 0, 0] tab hF hH rfl (by first | exact trivial | (simp only [All, inK_i64, inK_u64, inK_u32, inK_u8, inK_i32, max_i64, max_u64, IntKind.bits, Int.reduceToNat, Int.reduceAdd, Nat.reducePow, Int.reducePow, and_true, true_and, and_self] <;> omega)) ?_
      intro A w hF hH
      refine list_act hF rfl ?_
      refine op_call hF rfl rfl rfl rfl rfl rfl isF67 (ih κ _ C b (a % b) hb h1 (by omega) hH) ?_
      rintro e w ⟨rfl, hH⟩
      refine ⟨_, rfl, fun A hF => ?_⟩
      refine ev0 [0, 0, 0, 0] tab hF hH rfl (by first | exact trivial | (simp only [All, inK_i64, inK_u64, inK_u32, inK_u8, inK_i32, max_i64, max_u64, IntKind.bits, Int.reduceToNat, Int.reduceAdd, Nat.reducePow, Int.reducePow, and_true, true_and, and_self] <;> omega)) ?_
      intro A w hF hH
      refine wpList_nil ?_
      refine wp_ret ?_
      repeat (first | refine then_ret ?_ | refine blk_ret ?_ | refine ng_ret ?_)
      refine ret (M := []) (hs := []) tab hF hH rfl (by first | exact trivial | (simp only [All, inK_i64, inK_u64, inK_u32, inK_u8, inK_i32, max_i64, max_u64, IntKind.bits, Int.reduceToNat, Int.reduceAdd, Nat.reducePow, Int.reducePow, and_true, true_and, and_self] <;> omega)) ?_
      have h4 : Int.gcd b (a % b) = Int.gcd a b := gcd_mod' a b
      exact ⟨by rw [← h4]; rfl, hH⟩
set_option maxRecDepth 20000 in
theorem rmul_calls (a b : Int) (ha : 1 ≤ a) (hb : 1 ≤ b) (ha2 : a ≤ 9223372036854775807) (hb2 : b ≤ 9223372036854775807) (hab : a * b ≤ 9223372036854775807) (hH : Hp κ w C) : Calls Try.prog 68 #[.int .i64 a, .int .i64 b] w (fun e w' => e = .returned (.tuple #[.int .i64 (a * b), .int .i64 0]) ∧ Hp κ w' C) := by
  have hq : a ≤ 9223372036854775807 / b := Int.le_ediv_of_mul_le (by omega) hab
  have h0 : 0 ≤ a * b := Int.mul_nonneg (by omega) (by omega)
  refine enter (args := [.int .i64 a, .int .i64 b]) Try.func68 rfl rfl ?_
  intro A hF
  refine wp_seq ?_
  refine wp_region_lit ?_
  refine ev0 [0, 0] tab hF hH rfl (by first | exact trivial | (simp only [All, inK_i64, inK_u64, inK_u32, inK_u8, inK_i32, max_i64, max_u64, IntKind.bits, Int.reduceToNat, Int.reduceAdd, Nat.reducePow, Int.reducePow, and_true, true_and, and_self] <;> omega)) ?_
  intro A w hF hH
  refine wpList_nil ?_
  refine wp_seq ?_
  refine wp_seq ?_
  refine wp_region_lit ?_
  refine ev0 [0, 2, 0, 0, 2, 0] tab hF hH rfl (by first | exact trivial | (simp only [All, inK_i64, inK_u64, inK_u32, inK_u8, inK_i32, max_i64, max_u64, IntKind.bits, Int.reduceToNat, Int.reduceAdd, Nat.reducePow, Int.reducePow, and_true, true_and, and_self] <;> omega)) ?_
  intro A w hF hH
  refine wpList_nil ?_
  refine cond_f hF rfl rfl ?_
  refine wp_skip ?_
  refine wp_seq ?_
  refine wp_seq ?_
  refine wp_region_lit ?_
  refine ev0 [0, 1, 0, 0, 1, 0, 0, 0, 0, 0, 2, 0, 0, 0, 2, 0, 0, 0, 0, 0, 0, 0, 0, 0, 0, 0, 0, 0, 1, 0, 0, 2, 0, 0, 0, 0, 0, 0, 0, 0, 0, 0, 2, 0, 0, 0, 0, 0, 0, 0, 0, 0, 0, 0] tab hF hH rfl (by first | exact trivial | (simp only [All, inK_i64, inK_u64, inK_u32, inK_u8, inK_i32, max_i64, max_u64, IntKind.bits, Int.reduceToNat, Int.reduceAdd, Nat.reducePow, Int.reducePow, and_true, true_and, and_self] <;> omega)) ?_
  intro A w hF hH
  refine wpList_nil ?_
  refine cond_f hF rfl rfl ?_
  refine wp_skip ?_
  refine wp_seq ?_
  refine wp_region_lit ?_
  refine ev0 [0, 0, 0, 0, 0] tab hF hH rfl (by first | exact trivial | (simp only [All, inK_i64, inK_u64, inK_u32, inK_u8, inK_i32, max_i64, max_u64, IntKind.bits, Int.reduceToNat, Int.reduceAdd, Nat.reducePow, Int.reducePow, and_true, true_and, and_self] <;> omega)) ?_
  intro A w hF hH
  refine wpList_nil ?_
  refine wp_ret ?_
  repeat (first | refine then_ret ?_ | refine blk_ret ?_ | refine ng_ret ?_)
  refine ret (M := []) (hs := []) tab hF hH rfl (by first | exact trivial | (simp only [All, inK_i64, inK_u64, inK_u32, inK_u8, inK_i32, max_i64, max_u64, IntKind.bits, Int.reduceToNat, Int.reduceAdd, Nat.reducePow, Int.reducePow, and_true, true_and, and_self] <;> omega)) ?_
  exact ⟨rfl, hH⟩
set_option maxRecDepth 20000 in
theorem rlcm_calls (v : Value) (ns : List Int) (hv : Rd κ [] 1 e64 v ns) (hl : ns.length ≤ 9223372036854775807) (hok : LcmOk 1 ns) (hH : Hp κ w C) :
    Calls Try.prog 44 #[v] w (fun e w' => e = .returned (.tuple #[.int .i64 (lcmF 1 ns), .int .i64 0]) ∧ Hp κ w' C) := by
  obtain ⟨A0, cap, rfl, hcap⟩ := hv.form
  refine enter (args := [.slice A0 ns.length cap]) Try.func44 rfl rfl ?_
  intro A hF
  refine wp_seq ?_
  refine wp_region_lit ?_
  refine ev0 [0, 0] tab hF hH rfl (by first | exact trivial | (simp only [All, inK_i64, inK_u64, inK_u32, inK_u8, inK_i32, max_i64, max_u64, IntKind.bits, Int.reduceToNat, Int.reduceAdd, Nat.reducePow, Int.reducePow, and_true, true_and, and_self] <;> omega)) ?_
  intro A w hF hH
  refine wpList_nil ?_
  refine wp_seq ?_
  refine wp_region_lit ?_
  refine ev0 [0] tab hF hH rfl (by first | exact trivial | (simp only [All, inK_i64, inK_u64, inK_u32, inK_u8, inK_i32, max_i64, max_u64, IntKind.bits, Int.reduceToNat, Int.reduceAdd, Nat.reducePow, Int.reducePow, and_true, true_and, and_self] <;> omega)) ?_
  intro A w hF hH
  refine wpList_nil ?_
  refine wp_seq ?_
  refine wp_seq ?_
  refine wp_region_lit ?_
  refine ev0 [0] tab hF hH rfl (by first | exact trivial | (simp only [All, inK_i64, inK_u64, inK_u32, inK_u8, inK_i32, max_i64, max_u64, IntKind.bits, Int.reduceToNat, Int.reduceAdd, Nat.reducePow, Int.reducePow, and_true, true_and, and_self] <;> omega)) ?_
  intro A w hF hH
  refine wpList_nil ?_
  refine wp_block ?_
  refine loop_j (fun (i : Nat) A w => i ≤ ns.length ∧ ∃ m, 1 ≤ m ∧ m ≤ 9223372036854775807 ∧ LcmOk m (ns.drop i) ∧ lcmF m (ns.drop i) = lcmF 1 ns ∧ Fr 46 A [(0, .slice A0 ns.length cap), (5, .int .i64 i), (4, .int .i64 m)] ∧ Hp κ w C) (fun i => ns.length - i) 0 ⟨Nat.zero_le _, 1, by omega, by omega, hok, rfl, Fr.to hF ⟨rfl, rfl, rfl, trivial⟩, hH⟩ ?_
  rintro i A w ⟨hi, m, hm, hm', hok, hlc, hF, hH⟩
  refine wp_seq ?_
  refine wp_seq ?_
  refine wp_region_lit ?_
  by_cases hlt : i < ns.length
  · refine ev0 [0, 0, 0, 1] tab hF hH rfl (by first | exact trivial | (simp only [All, inK_i64, inK_u64, inK_u32, inK_u8, inK_i32, max_i64, max_u64, IntKind.bits, Int.reduceToNat, Int.reduceAdd, Nat.reducePow, Int.reducePow, and_true, true_and, and_self] <;> omega)) ?_
    intro A w hF hH
    refine wpList_nil ?_
    refine cond_t hF rfl rfl ?_
    refine wp_skip ?_
    refine wp_seq ?_
    refine wp_block ?_
    refine wp_seq ?_
    refine wp_seq ?_
    refine wp_region_lit ?_
    obtain ⟨b, off, rfl⟩ := hv.addr (by omega)
    have hd : ns.drop i = ns[i] :: ns.drop (i + 1) := by rw [List.drop_eq_getElem_cons hlt]
    rw [hd] at hok hlc
    obtain ⟨hn, hn', hmn, hok⟩ := hok
    have hs := lcm_step hm hn
    have hg := gcd_pos' (m := m) hn
    have hg' := gcd_le' (n := ns[i]) hm
    have hat := hv.at_ (fun x _ => rfl) i hlt
    generalize ns[i] = x at *
    refine evF [] [] (LFok.cons hat (LFok.nil _ _)) [0, 0, 0, 1, 2] tab hF hH rfl (by first | exact trivial | (simp only [All, inK_i64, inK_u64, inK_u32, inK_u8, inK_i32, max_i64, max_u64, IntKind.bits, Int.reduceToNat, Int.reduceAdd, Nat.reducePow, Int.reducePow, and_true, true_and, and_self] <;> omega)) ?_
    intro A w hF hH
    refine wpList_nil ?_
    refine cond_f hF rfl rfl ?_
    refine wp_skip ?_
    refine wp_seq ?_
    refine wp_region_lit ?_
    refine evF [] [] (LFok.cons hat (LFok.nil _ _)) [0, 0, 0, 0, 1] tab hF hH rfl (by first | exact trivial | (simp only [All, inK_i64, inK_u64, inK_u32, inK_u8, inK_i32, max_i64, max_u64, IntKind.bits, Int.reduceToNat, Int.reduceAdd, Nat.reducePow, Int.reducePow, and_true, true_and, and_self] <;> omega)) ?_
    intro A w hF hH
    refine list_act hF rfl ?_
    refine op_call hF rfl rfl rfl rfl rfl rfl isF67 (rgcd_calls x.toNat κ _ C m x (by omega) (by omega) (Nat.le_refl _) hH) ?_
    rintro e w ⟨rfl, hH⟩
    refine ⟨_, rfl, fun A hF => ?_⟩
    refine ev0 [0, 0, 0, 0, 0] tab hF hH rfl (by first | exact trivial | (simp only [All, inK_i64, inK_u64, inK_u32, inK_u8, inK_i32, max_i64, max_u64, IntKind.bits, Int.reduceToNat, Int.reduceAdd, Nat.reducePow, Int.reducePow, and_true, true_and, and_self] <;> omega)) ?_
    intro A w hF hH
    refine wpList_nil ?_
    refine wp_seq ?_
    refine dr_reads (by kernel_rfl) [] [] [] [(0, 0), (1, 0), (2, 0), (3, 0), (4, 0), (5, 0), (6, 1)] 6 tab (LFok.cons hat (LFok.nil _ _)) (by kernel_rfl) rfl hF hH (by kernel_rfl) rfl (by first | exact trivial | (simp only [All, inK_i64, inK_u64, inK_u32, inK_u8, inK_i32, max_i64, max_u64, IntKind.bits, Int.reduceToNat, Int.reduceAdd, Nat.reducePow, Int.reducePow, and_true, true_and, and_self] <;> omega)) ?_
    intro A w hF hH
    refine dr_act (k := 7) (by kernel_rfl) rfl hF rfl ?_
    refine op_call hF rfl rfl rfl rfl rfl rfl isF68 (rmul_calls (m / (Int.gcd m x : Int)) x hs.1 hn (by omega) hn' hmn hH) ?_
    rintro e w ⟨rfl, hH⟩
    refine ⟨_, rfl, fun A hF => ?_⟩
    refine ⟨fun _ => Keeps.of hH (K.le.refl _), ?_⟩
    refine dr_more [] [] [(8, 0), (9, 0), (10, 0), (11, 0), (12, 0)] 0 (K.le.refl _) tab (LFok.nil _ _) (by kernel_rfl) rfl hF hH (by kernel_rfl) rfl (by first | exact trivial | (simp only [All, inK_i64, inK_u64, inK_u32, inK_u8, inK_i32, max_i64, max_u64, IntKind.bits, Int.reduceToNat, Int.reduceAdd, Nat.reducePow, Int.reducePow, and_true, true_and, and_self] <;> omega)) ?_
    intro A hF
    refine dr_done (by kernel_rfl) ?_ _
    refine wp_seq ?_
    refine wp_seq ?_
    refine wp_region_lit ?_
    refine ev0 [0, 2] tab hF hH rfl (by first | exact trivial | (simp only [All, inK_i64, inK_u64, inK_u32, inK_u8, inK_i32, max_i64, max_u64, IntKind.bits, Int.reduceToNat, Int.reduceAdd, Nat.reducePow, Int.reducePow, and_true, true_and, and_self] <;> omega)) ?_
    intro A w hF hH
    refine wpList_nil ?_
    refine cond_f hF rfl rfl ?_
    refine wp_skip ?_
    refine wp_region_lit ?_
    refine ev0 [0, 0] tab hF hH rfl (by first | exact trivial | (simp only [All, inK_i64, inK_u64, inK_u32, inK_u8, inK_i32, max_i64, max_u64, IntKind.bits, Int.reduceToNat, Int.reduceAdd, Nat.reducePow, Int.reducePow, and_true, true_and, and_self] <;> omega)) ?_
    intro A w hF hH
    refine wpList_nil ?_
    refine wp_region_lit ?_
    refine ev0 [0, 0, 0] tab hF hH rfl (by first | exact trivial | (simp only [All, inK_i64, inK_u64, inK_u32, inK_u8, inK_i32, max_i64, max_u64, IntKind.bits, Int.reduceToNat, Int.reduceAdd, Nat.reducePow, Int.reducePow, and_true, true_and, and_self] <;> omega)) ?_
    intro A w hF hH
    refine wpList_nil ?_
    refine ⟨i + 1, ⟨by omega, _, hs.2.2, hmn, hok, hlc, Fr.to hF ⟨rfl, rfl, rfl, trivial⟩, hH⟩, by omega⟩
  · skip
    refine ev0 [0, 0, 0, 2] tab hF hH rfl (by first | exact trivial | (simp only [All, inK_i64, inK_u64, inK_u32, inK_u8, inK_i32, max_i64, max_u64, IntKind.bits, Int.reduceToNat, Int.reduceAdd, Nat.reducePow, Int.reducePow, and_true, true_and, and_self] <;> omega)) ?_
    intro A w hF hH
    refine wpList_nil ?_
    refine cond_f hF rfl rfl ?_
    refine wp_exit ?_
    repeat (first | refine then_exit ?_ | refine ng_exit ?_ | refine blk_exit ?_ | refine blk_exit_ne rfl ?_)
    refine wp_seq ?_
    refine wp_region_lit ?_
    have hd : ns.drop i = [] := List.drop_eq_nil_of_le (by omega)
    rw [hd] at hlc
    simp only [lcmF] at hlc
    refine ev0 [0, 0, 0] tab hF hH rfl (by first | exact trivial | (simp only [All, inK_i64, inK_u64, inK_u32, inK_u8, inK_i32, max_i64, max_u64, IntKind.bits, Int.reduceToNat, Int.reduceAdd, Nat.reducePow, Int.reducePow, and_true, true_and, and_self] <;> omega)) ?_
    intro A w hF hH
    refine wpList_nil ?_
    refine wp_ret ?_
    repeat (first | refine then_ret ?_ | refine blk_ret ?_ | refine ng_ret ?_)
    refine ret (M := []) (hs := []) tab hF hH rfl (by first | exact trivial | (simp only [All, inK_i64, inK_u64, inK_u32, inK_u8, inK_i32, max_i64, max_u64, IntKind.bits, Int.reduceToNat, Int.reduceAdd, Nat.reducePow, Int.reducePow, and_true, true_and, and_self] <;> omega)) ?_
    exact ⟨by rw [hlc]; rfl, hH⟩
theorem wenc1 {b0 off0 i : Nat} {p : Int × Int} (hat : ∀ κ' w, κ.le κ' → Hp κ' w [] → At w ⟨b0, off0 + i * 2, wenc p⟩) : ∀ κ' w, κ.le κ' → Hp κ' w [] → At w ⟨b0, off0 + i * 2 + 1, [.int .i64 p.2]⟩ := fun κ' w l hH => by
  obtain ⟨cs, t, fr, h1, h2⟩ := hat κ' w l hH
  refine ⟨cs, t, fr, h1, fun j u hu => ?_⟩
  cases j with
  | zero => exact h2 1 u hu
  | succ j => simp at hu
theorem wenc0 {b0 off0 i : Nat} {p : Int × Int} (hat : ∀ κ' w, κ.le κ' → Hp κ' w [] → At w ⟨b0, off0 + i * 2, wenc p⟩) : ∀ κ' w, κ.le κ' → Hp κ' w [] → At w ⟨b0, off0 + i * 2, [.int .i64 p.1]⟩ := fun κ' w l hH => by
  obtain ⟨cs, t, fr, h1, h2⟩ := hat κ' w l hH
  refine ⟨cs, t, fr, h1, fun j u hu => ?_⟩
  cases j with
  | zero => exact h2 0 u hu
  | succ j => simp at hu
set_option maxRecDepth 20000 in
theorem periods_calls {v : Value} {ps : List (Int × Int)} (hv : Rd κ [] 2 wenc v ps) (hlen : ps.length ≤ 8) (hH : Hp κ w C) :
    Calls Try.prog 45 #[v] w (fun e w' => ∃ κ' v', κ.le κ' ∧ e = .returned v' ∧ Rd κ' [] 1 e64 v' (ps.map (·.2)) ∧ Hp κ' w' C) := by
  obtain ⟨A0, cap, rfl, hcap⟩ := hv.form
  refine enter (args := [.slice A0 ps.length cap]) Try.func45 rfl rfl ?_
  intro A hF
  refine wp_seq ?_
  refine wp_region_lit ?_
  refine ev0 [0] tab hF hH rfl (by first | exact trivial | (simp only [All, inK_i64, inK_u64, inK_u32, inK_u8, inK_i32, max_i64, max_u64, IntKind.bits, Int.reduceToNat, Int.reduceAdd, Nat.reducePow, Int.reducePow, and_true, true_and, and_self] <;> omega)) ?_
  intro A w hF hH
  refine wpList_nil ?_
  refine wp_seq ?_
  refine wp_region_lit ?_
  refine ev0 [0] tab hF hH rfl (by first | exact trivial | (simp only [All, inK_i64, inK_u64, inK_u32, inK_u8, inK_i32, max_i64, max_u64, IntKind.bits, Int.reduceToNat, Int.reduceAdd, Nat.reducePow, Int.reducePow, and_true, true_and, and_self] <;> omega)) ?_
  intro A w hF hH
  refine wpList_nil ?_
  refine wp_seq ?_
  refine wp_seq ?_
  refine wp_region_lit ?_
  have hH := osl_nil 2 1 hH
  refine ev0 [0] tab hF hH rfl (by first | exact trivial | (simp only [All, inK_i64, inK_u64, inK_u32, inK_u8, inK_i32, max_i64, max_u64, IntKind.bits, Int.reduceToNat, Int.reduceAdd, Nat.reducePow, Int.reducePow, and_true, true_and, and_self] <;> omega)) ?_
  intro A w hF hH
  refine wpList_nil ?_
  refine wp_block ?_
  refine loop_j (fun (i : Nat) A w => i ≤ ps.length ∧ ∃ o, Fr 20 A [(4, .int .i64 i), (0, .slice A0 ps.length cap), (3, o)] ∧ Hp κ w (osl o 2 1 i (((ps.map (·.2)).take i).flatMap e64) :: C)) (fun i => ps.length - i) 0 ⟨Nat.zero_le _, _, Fr.to hF ⟨rfl, rfl, rfl, trivial⟩, hH⟩ ?_
  rintro i A w ⟨hi, o, hF, hH⟩
  refine wp_seq ?_
  refine wp_seq ?_
  refine wp_region_lit ?_
  by_cases hlt : i < ps.length
  · refine ev0 [0, 0, 0, 1] tab hF hH rfl (by first | exact trivial | (simp only [All, inK_i64, inK_u64, inK_u32, inK_u8, inK_i32, max_i64, max_u64, IntKind.bits, Int.reduceToNat, Int.reduceAdd, Nat.reducePow, Int.reducePow, and_true, true_and, and_self] <;> omega)) ?_
    intro A w hF hH
    refine wpList_nil ?_
    refine cond_t hF rfl rfl ?_
    refine wp_skip ?_
    refine wp_seq ?_
    refine wp_block ?_
    refine wp_region_lit ?_
    obtain ⟨b0, off0, rfl⟩ := hv.addr (by omega)
    have hts := take_succ_flat e64 (ps.map (·.2)) i (by simpa using hlt)
    rw [List.getElem_map] at hts
    have hat := wenc1 (hv.at_ (fun _ _ => rfl) i hlt)
    generalize ps[i] = p at *
    refine evF [] [] (LFok.cons hat (LFok.nil _ _)) [0, 0, 0, 0, 0, 1] tab hF hH rfl (by first | exact trivial | (simp only [All, inK_i64, inK_u64, inK_u32, inK_u8, inK_i32, max_i64, max_u64, IntKind.bits, Int.reduceToNat, Int.reduceAdd, Nat.reducePow, Int.reducePow, and_true, true_and, and_self] <;> omega)) ?_
    intro A w hF hH
    refine list_act hF rfl ?_
    refine op_buildSlice hF tab rfl rfl rfl rfl rfl rfl rfl rfl hH ?_
    intro bs A w hF hH
    have hat := row_at hH (off := 0) (vs := [.int .i64 p.2]) (fun j u h => by simpa using h)
    have hH := hH.tail
    refine list_act hF rfl ?_
    refine op_append hF tab rfl rfl rfl rfl rfl rfl rfl rfl hH hat rfl rfl (by simp [maxLen]; omega) (by simp; omega) ?_
    intro v A w hF hH
    refine ev0 [0] tab hF hH rfl (by first | exact trivial | (simp only [All, inK_i64, inK_u64, inK_u32, inK_u8, inK_i32, max_i64, max_u64, IntKind.bits, Int.reduceToNat, Int.reduceAdd, Nat.reducePow, Int.reducePow, and_true, true_and, and_self] <;> omega)) ?_
    intro A w hF hH
    refine wpList_nil ?_
    refine wp_region_lit ?_
    refine ev0 [0, 0, 0] tab hF hH rfl (by first | exact trivial | (simp only [All, inK_i64, inK_u64, inK_u32, inK_u8, inK_i32, max_i64, max_u64, IntKind.bits, Int.reduceToNat, Int.reduceAdd, Nat.reducePow, Int.reducePow, and_true, true_and, and_self] <;> omega)) ?_
    intro A w hF hH
    refine wpList_nil ?_
    refine ⟨i + 1, ⟨by omega, v, Fr.to hF ⟨rfl, rfl, rfl, trivial⟩, ?_⟩, by omega⟩
    rw [← hts]; exact hH
  · skip
    refine ev0 [0, 0, 0, 2] tab hF hH rfl (by first | exact trivial | (simp only [All, inK_i64, inK_u64, inK_u32, inK_u8, inK_i32, max_i64, max_u64, IntKind.bits, Int.reduceToNat, Int.reduceAdd, Nat.reducePow, Int.reducePow, and_true, true_and, and_self] <;> omega)) ?_
    intro A w hF hH
    refine wpList_nil ?_
    refine cond_f hF rfl rfl ?_
    refine wp_exit ?_
    repeat (first | refine then_exit ?_ | refine ng_exit ?_ | refine blk_exit ?_ | refine blk_exit_ne rfl ?_)
    refine wp_seq ?_
    refine wp_region_lit ?_
    have e : i = (ps.map (·.2)).length := by simp; omega
    subst e
    rw [List.take_length] at hH
    obtain ⟨κ', l, hH, hr⟩ := osl_freeze (enc := e64) (fun _ _ => rfl) hH
    refine ev0 [0, 0] tab hF hH rfl (by first | exact trivial | (simp only [All, inK_i64, inK_u64, inK_u32, inK_u8, inK_i32, max_i64, max_u64, IntKind.bits, Int.reduceToNat, Int.reduceAdd, Nat.reducePow, Int.reducePow, and_true, true_and, and_self] <;> omega)) ?_
    intro A w hF hH
    refine wpList_nil ?_
    refine wp_ret ?_
    repeat (first | refine then_ret ?_ | refine blk_ret ?_ | refine ng_ret ?_)
    refine ret (M := []) (hs := []) tab hF hH rfl (by first | exact trivial | (simp only [All, inK_i64, inK_u64, inK_u32, inK_u8, inK_i32, max_i64, max_u64, IntKind.bits, Int.reduceToNat, Int.reduceAdd, Nat.reducePow, Int.reducePow, and_true, true_and, and_self] <;> omega)) ?_
    exact ⟨κ', o, l, rfl, hr [], hH⟩
set_option maxRecDepth 20000 in
theorem rchk14_calls {v : Value} {ps : List (Int × Int)} (hv : Rd κ [] 2 wenc v ps) (hp : ∀ p ∈ ps, POk p) (hlen : ps.length ≤ 8) (hH : Hp κ w C) :
    Calls Try.prog 43 #[v] w (fun e w' => e = .returned (.bool (decide (ps ≠ []))) ∧ Hp κ w' C) := by
  obtain ⟨A0, cap, rfl, hcap⟩ := hv.form
  refine enter (args := [.slice A0 ps.length cap]) Try.func43 rfl rfl ?_
  intro A hF
  refine wp_seq ?_
  refine wp_region_lit ?_
  refine ev0 [0] tab hF hH rfl (by first | exact trivial | (simp only [All, inK_i64, inK_u64, inK_u32, inK_u8, inK_i32, max_i64, max_u64, IntKind.bits, Int.reduceToNat, Int.reduceAdd, Nat.reducePow, Int.reducePow, and_true, true_and, and_self] <;> omega)) ?_
  intro A w hF hH
  refine wpList_nil ?_
  refine wp_seq ?_
  refine wp_seq ?_
  refine wp_region_lit ?_
  refine ev0 [0] tab hF hH rfl (by first | exact trivial | (simp only [All, inK_i64, inK_u64, inK_u32, inK_u8, inK_i32, max_i64, max_u64, IntKind.bits, Int.reduceToNat, Int.reduceAdd, Nat.reducePow, Int.reducePow, and_true, true_and, and_self] <;> omega)) ?_
  intro A w hF hH
  refine wpList_nil ?_
  refine wp_block ?_
  refine loop_j (fun (i : Nat) A w => i ≤ ps.length ∧ Fr 33 A [(3, .int .i64 i), (0, .slice A0 ps.length cap)] ∧ Hp κ w C) (fun i => ps.length - i) 0 ⟨Nat.zero_le _, Fr.to hF ⟨rfl, rfl, trivial⟩, hH⟩ ?_
  rintro i A w ⟨hi, hF, hH⟩
  refine wp_seq ?_
  refine wp_seq ?_
  refine wp_region_lit ?_
  by_cases hlt : i < ps.length
  · refine ev0 [0, 0, 0, 1] tab hF hH rfl (by first | exact trivial | (simp only [All, inK_i64, inK_u64, inK_u32, inK_u8, inK_i32, max_i64, max_u64, IntKind.bits, Int.reduceToNat, Int.reduceAdd, Nat.reducePow, Int.reducePow, and_true, true_and, and_self] <;> omega)) ?_
    intro A w hF hH
    refine wpList_nil ?_
    refine cond_t hF rfl rfl ?_
    refine wp_skip ?_
    refine wp_seq ?_
    refine wp_block ?_
    refine wp_seq ?_
    obtain ⟨b0, off0, rfl⟩ := hv.addr (by omega)
    have hat := hv.at_ (fun _ _ => rfl) i hlt
    have hat0 := wenc0 hat
    have hat1 := wenc1 hat
    have hpi := hp ps[i] (List.getElem_mem hlt)
    generalize ps[i] = p at *
    refine dr_reads (by kernel_rfl) [] [] [] [(0, 0), (1, 0), (2, 0), (3, 0), (4, 1), (5, 0), (6, 0), (7, 0), (8, 0), (9, 3), (10, 0)] 2 tab (LFok.cons hat0 (LFok.cons hat1 (LFok.nil _ _))) (by kernel_rfl) rfl hF hH (by kernel_rfl) rfl (by first | exact trivial | (simp only [All, inK_i64, inK_u64, inK_u32, inK_u8, inK_i32, max_i64, max_u64, IntKind.bits, Int.reduceToNat, Int.reduceAdd, Nat.reducePow, Int.reducePow, and_true, true_and, and_self] <;> omega)) ?_
    intro A w hF hH
    refine dr_act (k := 11) (by kernel_rfl) rfl hF rfl ?_
    refine op_call hF rfl rfl rfl rfl rfl rfl isF60 (rcheck4_calls (E := p.1) (P := p.2) hpi.w hH) ?_
    rintro e w ⟨rfl, hH⟩
    refine ⟨_, rfl, fun A hF => ?_⟩
    refine ⟨fun _ => Keeps.of hH (K.le.refl _), ?_⟩
    refine dr_more [] [] [(12, 0)] 0 (K.le.refl _) tab (LFok.nil _ _) (by kernel_rfl) rfl hF hH (by kernel_rfl) rfl (by first | exact trivial | (simp only [All, inK_i64, inK_u64, inK_u32, inK_u8, inK_i32, max_i64, max_u64, IntKind.bits, Int.reduceToNat, Int.reduceAdd, Nat.reducePow, Int.reducePow, and_true, true_and, and_self] <;> omega)) ?_
    intro A hF
    refine dr_done (by kernel_rfl) ?_ _
    refine wp_seq ?_
    refine wp_region_lit ?_
    refine ev0 [0, 0] tab hF hH rfl (by first | exact trivial | (simp only [All, inK_i64, inK_u64, inK_u32, inK_u8, inK_i32, max_i64, max_u64, IntKind.bits, Int.reduceToNat, Int.reduceAdd, Nat.reducePow, Int.reducePow, and_true, true_and, and_self] <;> omega)) ?_
    intro A w hF hH
    refine wpList_nil ?_
    refine cond_f hF rfl rfl ?_
    refine wp_skip ?_
    refine wp_region_lit ?_
    refine ev0 [0, 0, 0] tab hF hH rfl (by first | exact trivial | (simp only [All, inK_i64, inK_u64, inK_u32, inK_u8, inK_i32, max_i64, max_u64, IntKind.bits, Int.reduceToNat, Int.reduceAdd, Nat.reducePow, Int.reducePow, and_true, true_and, and_self] <;> omega)) ?_
    intro A w hF hH
    refine wpList_nil ?_
    exact ⟨i + 1, ⟨by omega, Fr.to hF ⟨rfl, rfl, trivial⟩, hH⟩, by omega⟩
  · skip
    refine ev0 [0, 0, 0, 2] tab hF hH rfl (by first | exact trivial | (simp only [All, inK_i64, inK_u64, inK_u32, inK_u8, inK_i32, max_i64, max_u64, IntKind.bits, Int.reduceToNat, Int.reduceAdd, Nat.reducePow, Int.reducePow, and_true, true_and, and_self] <;> omega)) ?_
    intro A w hF hH
    refine wpList_nil ?_
    refine cond_f hF rfl rfl ?_
    refine wp_exit ?_
    repeat (first | refine then_exit ?_ | refine ng_exit ?_ | refine blk_exit ?_ | refine blk_exit_ne rfl ?_)
    refine wp_seq ?_
    refine wp_region_lit ?_
    by_cases h0 : ps = []
    · subst h0
      have h00 : ([] : List (Int × Int)).length = 0 := rfl
      refine ev0 [0, 0, 2, 0, 0, 0, 0, 0, 0] tab hF hH rfl (by first | exact trivial | (simp only [All, inK_i64, inK_u64, inK_u32, inK_u8, inK_i32, max_i64, max_u64, IntKind.bits, Int.reduceToNat, Int.reduceAdd, Nat.reducePow, Int.reducePow, and_true, true_and, and_self] <;> omega)) ?_
      intro A w hF hH
      refine wpList_nil ?_
      refine wp_ret ?_
      repeat (first | refine then_ret ?_ | refine blk_ret ?_ | refine ng_ret ?_)
      refine ret (M := []) (hs := []) tab hF hH rfl (by first | exact trivial | (simp only [All, inK_i64, inK_u64, inK_u32, inK_u8, inK_i32, max_i64, max_u64, IntKind.bits, Int.reduceToNat, Int.reduceAdd, Nat.reducePow, Int.reducePow, and_true, true_and, and_self] <;> omega)) ?_
      exact ⟨rfl, hH⟩
    · have hl0 : 0 < ps.length := List.length_pos_iff.2 h0
      refine ev0 [0, 0, 1, 0, 0, 0, 1, 0, 0] tab hF hH rfl (by first | exact trivial | (simp only [All, inK_i64, inK_u64, inK_u32, inK_u8, inK_i32, max_i64, max_u64, IntKind.bits, Int.reduceToNat, Int.reduceAdd, Nat.reducePow, Int.reducePow, and_true, true_and, and_self] <;> omega)) ?_
      intro A w hF hH
      refine wpList_nil ?_
      refine wp_ret ?_
      repeat (first | refine then_ret ?_ | refine blk_ret ?_ | refine ng_ret ?_)
      refine ret (M := []) (hs := []) tab hF hH rfl (by first | exact trivial | (simp only [All, inK_i64, inK_u64, inK_u32, inK_u8, inK_i32, max_i64, max_u64, IntKind.bits, Int.reduceToNat, Int.reduceAdd, Nat.reducePow, Int.reducePow, and_true, true_and, and_self] <;> omega)) ?_
      exact ⟨by rw [show decide (ps ≠ []) = true from by simpa using h0]; rfl, hH⟩
set_option maxRecDepth 20000 in
theorem rweight_calls {v : Value} {ps : List (Int × Int)} (hv : Rd κ [] 2 wenc v ps) (hp : ∀ p ∈ ps, POk p) (hlen : ps.length ≤ 8) (hH : Hp κ w C) :
    Calls Try.prog 19 #[v] w (fun e w' => ∃ x y, e = .returned (.tuple #[.agg #[.int .i64 x, .int .i64 y], .int .i64 (weightF ps).2.2]) ∧ Hp κ w' C) := by
  have hv0 := hv
  obtain ⟨A0, cap, rfl, hcap⟩ := hv.form
  refine enter (args := [.slice A0 ps.length cap]) Try.func19 rfl rfl ?_
  intro A hF
  refine wp_seq ?_
  refine wp_region_lit ?_
  refine list_act hF rfl ?_
  refine op_alloc hF tab rfl rfl rfl rfl rfl hH ?_
  intro b A w hF hH
  refine ev0 [0] tab hF hH rfl (by first | exact trivial | (simp only [All, inK_i64, inK_u64, inK_u32, inK_u8, inK_i32, max_i64, max_u64, IntKind.bits, Int.reduceToNat, Int.reduceAdd, Nat.reducePow, Int.reducePow, and_true, true_and, and_self] <;> omega)) ?_
  intro A w hF hH
  refine wpList_nil ?_
  refine wp_seq ?_
  refine wp_region_lit ?_
  refine ev0 [0] tab hF hH rfl (by first | exact trivial | (simp only [All, inK_i64, inK_u64, inK_u32, inK_u8, inK_i32, max_i64, max_u64, IntKind.bits, Int.reduceToNat, Int.reduceAdd, Nat.reducePow, Int.reducePow, and_true, true_and, and_self] <;> omega)) ?_
  intro A w hF hH
  refine list_act hF rfl ?_
  refine op_call hF rfl rfl rfl rfl rfl rfl isF43 (rchk14_calls hv0 hp hlen hH) ?_
  rintro e w ⟨rfl, hH⟩
  refine ⟨_, rfl, fun A hF => ?_⟩
  by_cases h0 : ps = []
  · rw [show decide (ps ≠ []) = false from by simpa using h0] at hF
    refine ev0 [0] tab hF hH rfl (by first | exact trivial | (simp only [All, inK_i64, inK_u64, inK_u32, inK_u8, inK_i32, max_i64, max_u64, IntKind.bits, Int.reduceToNat, Int.reduceAdd, Nat.reducePow, Int.reducePow, and_true, true_and, and_self] <;> omega)) ?_
    intro A w hF hH
    refine wpList_nil ?_
    refine wp_seq ?_
    refine wp_seq ?_
    refine wp_region_lit ?_
    refine ev0 [0, 0] tab hF hH rfl (by first | exact trivial | (simp only [All, inK_i64, inK_u64, inK_u32, inK_u8, inK_i32, max_i64, max_u64, IntKind.bits, Int.reduceToNat, Int.reduceAdd, Nat.reducePow, Int.reducePow, and_true, true_and, and_self] <;> omega)) ?_
    intro A w hF hH
    refine wpList_nil ?_
    refine cond_t hF rfl rfl ?_
    refine wp_seq ?_
    refine wp_region_lit ?_
    refine evM [⟨b, [.int .i64 0, .int .i64 0], 28⟩] [0, 0, 0] tab hF hH rfl (by first | exact trivial | (simp only [All, inK_i64, inK_u64, inK_u32, inK_u8, inK_i32, max_i64, max_u64, IntKind.bits, Int.reduceToNat, Int.reduceAdd, Nat.reducePow, Int.reducePow, and_true, true_and, and_self] <;> omega)) ?_
    intro A w hF hH
    refine wpList_nil ?_
    refine wp_ret ?_
    repeat (first | refine then_ret ?_ | refine blk_ret ?_ | refine ng_ret ?_)
    refine ret (M := [⟨b, [.int .i64 0, .int .i64 0], 28⟩]) (hs := [0]) tab hF hH rfl (by first | exact trivial | (simp only [All, inK_i64, inK_u64, inK_u32, inK_u8, inK_i32, max_i64, max_u64, IntKind.bits, Int.reduceToNat, Int.reduceAdd, Nat.reducePow, Int.reducePow, and_true, true_and, and_self] <;> omega)) ?_
    rw [show weightF ps = (0, 0, 1) from by simp [weightF, h0]]
    exact ⟨_, _, rfl, hH.tail⟩
  · skip
    rw [show decide (ps ≠ []) = true from by simpa using h0] at hF
    have hl0 : 0 < ps.length := List.length_pos_iff.2 h0
    obtain ⟨hL1, hLd⟩ := perF_spec hp
    obtain ⟨m1, m2⟩ := minP_spec hp h0
    obtain ⟨hok, hL8⟩ := lcmOk_of (ps.map (·.2)) 1 0 (by omega) (by simp) (fun n hn => by
      obtain ⟨p, hp', rfl⟩ := List.mem_map.1 hn
      have := hp p hp'
      have h1 := this.1
      have h2 := this.2.1
      have h3 := this.2.2
      omega) (by simpa using hlen)
    refine ev0 [0] tab hF hH rfl (by first | exact trivial | (simp only [All, inK_i64, inK_u64, inK_u32, inK_u8, inK_i32, max_i64, max_u64, IntKind.bits, Int.reduceToNat, Int.reduceAdd, Nat.reducePow, Int.reducePow, and_true, true_and, and_self] <;> omega)) ?_
    intro A w hF hH
    refine wpList_nil ?_
    refine wp_seq ?_
    refine wp_seq ?_
    refine wp_region_lit ?_
    refine ev0 [0, 0] tab hF hH rfl (by first | exact trivial | (simp only [All, inK_i64, inK_u64, inK_u32, inK_u8, inK_i32, max_i64, max_u64, IntKind.bits, Int.reduceToNat, Int.reduceAdd, Nat.reducePow, Int.reducePow, and_true, true_and, and_self] <;> omega)) ?_
    intro A w hF hH
    refine wpList_nil ?_
    refine cond_f hF rfl rfl ?_
    refine wp_skip ?_
    refine wp_seq ?_
    refine wp_region_lit ?_
    refine ev0 [0] tab hF hH rfl (by first | exact trivial | (simp only [All, inK_i64, inK_u64, inK_u32, inK_u8, inK_i32, max_i64, max_u64, IntKind.bits, Int.reduceToNat, Int.reduceAdd, Nat.reducePow, Int.reducePow, and_true, true_and, and_self] <;> omega)) ?_
    intro A w hF hH
    refine list_act hF rfl ?_
    refine op_call hF rfl rfl rfl rfl rfl rfl isF45 (periods_calls hv0 hlen hH) ?_
    rintro e w ⟨κ1, v1, l1, rfl, hv1, hH⟩
    refine ⟨_, rfl, fun A hF => ?_⟩
    refine list_act hF rfl ?_
    refine op_call hF rfl rfl rfl rfl rfl rfl isF44 (rlcm_calls v1 _ hv1 (by simp; omega) hok hH) ?_
    rintro e w ⟨rfl, hH⟩
    refine ⟨_, rfl, fun A hF => ?_⟩
    have hpe : lcmF 1 (ps.map (·.2)) = perF ps := rfl
    rw [hpe] at hF
    have hH := hH.lower l1
    refine ev0 [0, 0, 0, 0, 0] tab hF hH rfl (by first | exact trivial | (simp only [All, inK_i64, inK_u64, inK_u32, inK_u8, inK_i32, max_i64, max_u64, IntKind.bits, Int.reduceToNat, Int.reduceAdd, Nat.reducePow, Int.reducePow, and_true, true_and, and_self] <;> omega)) ?_
    intro A w hF hH
    refine wpList_nil ?_
    refine wp_seq ?_
    refine wp_seq ?_
    refine wp_region_lit ?_
    by_cases h1 : 1048576 < perF ps
    · refine ev0 [0, 2, 0, 0, 1, 0] tab hF hH rfl (by first | exact trivial | (simp only [All, inK_i64, inK_u64, inK_u32, inK_u8, inK_i32, max_i64, max_u64, IntKind.bits, Int.reduceToNat, Int.reduceAdd, Nat.reducePow, Int.reducePow, and_true, true_and, and_self] <;> omega)) ?_
      intro A w hF hH
      refine wpList_nil ?_
      refine cond_t hF rfl rfl ?_
      refine wp_seq ?_
      refine wp_region_lit ?_
      refine evM [⟨b, [.int .i64 0, .int .i64 0], 28⟩] [0, 0, 0] tab hF hH rfl (by first | exact trivial | (simp only [All, inK_i64, inK_u64, inK_u32, inK_u8, inK_i32, max_i64, max_u64, IntKind.bits, Int.reduceToNat, Int.reduceAdd, Nat.reducePow, Int.reducePow, and_true, true_and, and_self] <;> omega)) ?_
      intro A w hF hH
      refine wpList_nil ?_
      refine wp_ret ?_
      repeat (first | refine then_ret ?_ | refine blk_ret ?_ | refine ng_ret ?_)
      refine ret (M := [⟨b, [.int .i64 0, .int .i64 0], 28⟩]) (hs := [0]) tab hF hH rfl (by first | exact trivial | (simp only [All, inK_i64, inK_u64, inK_u32, inK_u8, inK_i32, max_i64, max_u64, IntKind.bits, Int.reduceToNat, Int.reduceAdd, Nat.reducePow, Int.reducePow, and_true, true_and, and_self] <;> omega)) ?_
      rw [show weightF ps = (0, 0, 16) from by simp [weightF, h0, h1]]
      exact ⟨_, _, rfl, hH.tail⟩
    · skip
      generalize hL : perF ps = L at *
      obtain ⟨b0, off0, rfl⟩ := hv.addr (by omega)
      have hat := hv.at_ (fun _ _ => rfl) 0 hl0
      have hat1 := wenc1 hat
      have hp0 := hp ps[0] (List.getElem_mem hl0)
      refine ev0 [0, 2, 0, 0, 2, 0] tab hF hH rfl (by first | exact trivial | (simp only [All, inK_i64, inK_u64, inK_u32, inK_u8, inK_i32, max_i64, max_u64, IntKind.bits, Int.reduceToNat, Int.reduceAdd, Nat.reducePow, Int.reducePow, and_true, true_and, and_self] <;> omega)) ?_
      intro A w hF hH
      refine wpList_nil ?_
      refine cond_f hF rfl rfl ?_
      refine wp_skip ?_
      refine wp_seq ?_
      refine wp_region_lit ?_
      refine ev0 [0] tab hF hH rfl (by first | exact trivial | (simp only [All, inK_i64, inK_u64, inK_u32, inK_u8, inK_i32, max_i64, max_u64, IntKind.bits, Int.reduceToNat, Int.reduceAdd, Nat.reducePow, Int.reducePow, and_true, true_and, and_self] <;> omega)) ?_
      intro A w hF hH
      refine wpList_nil ?_
      refine wp_seq ?_
      refine wp_region_lit ?_
      refine evF [] [] (LFok.cons hat1 (LFok.nil _ _)) [0, 0, 0, 1, 0] tab hF hH rfl (by first | exact trivial | (simp only [All, inK_i64, inK_u64, inK_u32, inK_u8, inK_i32, max_i64, max_u64, IntKind.bits, Int.reduceToNat, Int.reduceAdd, Nat.reducePow, Int.reducePow, and_true, true_and, and_self] <;> omega)) ?_
      intro A w hF hH
      refine wpList_nil ?_
      refine wp_seq ?_
      refine wp_seq ?_
      refine wp_region_lit ?_
      have hinit : (∀ j (h : j < ps.length), j < 0 → ps[0].2 ≤ ps[j].2) ∧ ∃ j, ∃ h : j < ps.length, ps[0].2 = ps[j].2 := ⟨fun j h h' => by omega, 0, hl0, rfl⟩
      refine ev0 [0] tab hF hH rfl (by first | exact trivial | (simp only [All, inK_i64, inK_u64, inK_u32, inK_u8, inK_i32, max_i64, max_u64, IntKind.bits, Int.reduceToNat, Int.reduceAdd, Nat.reducePow, Int.reducePow, and_true, true_and, and_self] <;> omega)) ?_
      intro A w hF hH
      refine wpList_nil ?_
      refine wp_block ?_
      refine loop_j (fun (i : Nat) A w => i ≤ ps.length ∧ ∃ q m : Int, 0 ≤ q ∧ q + sumS L (ps.drop i) = sumS L ps ∧ 1 ≤ m ∧ m ≤ 24 ∧ Fr 81 A [(9, .int .i64 i), (8, .int .i64 m), (7, .int .i64 q), (5, .int .i64 L), (0, .slice (some ⟨b0, off0, none⟩) ps.length cap), (2, .pointer (some ⟨b, 0, none⟩))] ∧ Hp κ w (row b [.int .i64 0, .int .i64 0] 28 :: C)) (fun i => ps.length - i) 0 ⟨Nat.zero_le _, 0, ps[0].2, by omega, by simp, by have := hp0.1; have := hp0.2.1; omega, hp0.2.2, Fr.to hF ⟨rfl, rfl, rfl, rfl, rfl, rfl, trivial⟩, hH⟩ ?_
      rintro i A w ⟨hi, q, m, hq0, hq, hm1, hm2, hF, hH⟩
      obtain ⟨hS0, hS1⟩ := sumS_range (L := L) (by omega) (by omega) ps hp
      obtain ⟨hS2, hS3⟩ := sumS_range (L := L) (by omega) (by omega) (ps.drop i) (fun p h => hp p (List.mem_of_mem_drop h))
      refine wp_seq ?_
      refine wp_seq ?_
      refine wp_region_lit ?_
      by_cases hlt : i < ps.length
      · refine ev0 [0, 0, 0, 1] tab hF hH rfl (by first | exact trivial | (simp only [All, inK_i64, inK_u64, inK_u32, inK_u8, inK_i32, max_i64, max_u64, IntKind.bits, Int.reduceToNat, Int.reduceAdd, Nat.reducePow, Int.reducePow, and_true, true_and, and_self] <;> omega)) ?_
        intro A w hF hH
        refine wpList_nil ?_
        refine cond_t hF rfl rfl ?_
        refine wp_skip ?_
        refine wp_seq ?_
        refine wp_block ?_
        refine wp_seq ?_
        have hat := hv.at_ (fun _ _ => rfl) i hlt
        have hat0 := wenc0 hat
        have hat1 := wenc1 hat
        have hpi := hp ps[i] (List.getElem_mem hlt)
        obtain ⟨hS4, hS5⟩ := sumS_range (L := L) (by omega) (by omega) (ps.drop (i + 1)) (fun p h => hp p (List.mem_of_mem_drop h))
        rw [List.drop_eq_getElem_cons hlt] at hq
        simp only [sumS] at hq
        generalize ps[i] = p at *
        obtain ⟨p1, p2, p3⟩ := hpi
        have c1 : 0 ≤ L / p.2 := Int.ediv_nonneg (by omega) (by omega)
        have c2 : L / p.2 ≤ L := Int.ediv_le_self _ (by omega)
        have c3 : p.1 * (L / p.2) ≤ 24 * 1048576 := Int.mul_le_mul (by omega) (by omega) c1 (by omega)
        have c4 : 0 ≤ p.1 * (L / p.2) := Int.mul_nonneg (by omega) c1
        refine dr_all (by kernel_rfl) [] [] [(0, 0), (1, 0), (2, 0), (3, 0), (4, 0), (5, 1), (6, 0), (7, 0), (8, 0), (9, 0), (10, 0), (11, 3), (12, 0), (13, 0), (14, 0), (15, 0)] tab (LFok.cons hat0 (LFok.cons hat1 (LFok.nil _ _))) (by kernel_rfl) rfl hF hH (by kernel_rfl) (by kernel_rfl) rfl (by first | exact trivial | (simp only [All, inK_i64, inK_u64, inK_u32, inK_u8, inK_i32, max_i64, max_u64, IntKind.bits, Int.reduceToNat, Int.reduceAdd, Nat.reducePow, Int.reducePow, and_true, true_and, and_self] <;> omega)) ?_
        intro A w hF hH
        refine wp_seq ?_
        refine wp_region_lit ?_
        by_cases hlm : p.2 < m
        · refine evF [] [] (LFok.cons hat1 (LFok.nil _ _)) [0, 0, 0, 0, 1, 0, 1] tab hF hH rfl (by first | exact trivial | (simp only [All, inK_i64, inK_u64, inK_u32, inK_u8, inK_i32, max_i64, max_u64, IntKind.bits, Int.reduceToNat, Int.reduceAdd, Nat.reducePow, Int.reducePow, and_true, true_and, and_self] <;> omega)) ?_
          intro A w hF hH
          refine wpList_nil ?_
          refine cond_t hF rfl rfl ?_
          refine wp_region_lit ?_
          refine evF [] [] (LFok.cons hat1 (LFok.nil _ _)) [0, 0, 0, 0, 1, 0] tab hF hH rfl (by first | exact trivial | (simp only [All, inK_i64, inK_u64, inK_u32, inK_u8, inK_i32, max_i64, max_u64, IntKind.bits, Int.reduceToNat, Int.reduceAdd, Nat.reducePow, Int.reducePow, and_true, true_and, and_self] <;> omega)) ?_
          intro A w hF hH
          refine wpList_nil ?_
          refine wp_region_lit ?_
          refine ev0 [0, 0, 0] tab hF hH rfl (by first | exact trivial | (simp only [All, inK_i64, inK_u64, inK_u32, inK_u8, inK_i32, max_i64, max_u64, IntKind.bits, Int.reduceToNat, Int.reduceAdd, Nat.reducePow, Int.reducePow, and_true, true_and, and_self] <;> omega)) ?_
          intro A w hF hH
          refine wpList_nil ?_
          exact ⟨i + 1, ⟨by omega, q + p.1 * (L / p.2), p.2, by omega, by omega, by omega, p3, Fr.to hF ⟨rfl, rfl, rfl, rfl, rfl, rfl, trivial⟩, hH⟩, by omega⟩
        · skip
          refine evF [] [] (LFok.cons hat1 (LFok.nil _ _)) [0, 0, 0, 0, 1, 0, 2] tab hF hH rfl (by first | exact trivial | (simp only [All, inK_i64, inK_u64, inK_u32, inK_u8, inK_i32, max_i64, max_u64, IntKind.bits, Int.reduceToNat, Int.reduceAdd, Nat.reducePow, Int.reducePow, and_true, true_and, and_self] <;> omega)) ?_
          intro A w hF hH
          refine wpList_nil ?_
          refine cond_f hF rfl rfl ?_
          refine wp_skip ?_
          refine wp_region_lit ?_
          refine ev0 [0, 0, 0] tab hF hH rfl (by first | exact trivial | (simp only [All, inK_i64, inK_u64, inK_u32, inK_u8, inK_i32, max_i64, max_u64, IntKind.bits, Int.reduceToNat, Int.reduceAdd, Nat.reducePow, Int.reducePow, and_true, true_and, and_self] <;> omega)) ?_
          intro A w hF hH
          refine wpList_nil ?_
          exact ⟨i + 1, ⟨by omega, q + p.1 * (L / p.2), m, by omega, by omega, hm1, hm2, Fr.to hF ⟨rfl, rfl, rfl, rfl, rfl, rfl, trivial⟩, hH⟩, by omega⟩
      · skip
        have hqe : q = sumS L ps := by
          rw [List.drop_eq_nil_of_le (by omega)] at hq
          simp only [sumS] at hq; omega
        refine ev0 [0, 0, 0, 2] tab hF hH rfl (by first | exact trivial | (simp only [All, inK_i64, inK_u64, inK_u32, inK_u8, inK_i32, max_i64, max_u64, IntKind.bits, Int.reduceToNat, Int.reduceAdd, Nat.reducePow, Int.reducePow, and_true, true_and, and_self] <;> omega)) ?_
        intro A w hF hH
        refine wpList_nil ?_
        refine cond_f hF rfl rfl ?_
        refine wp_exit ?_
        repeat (first | refine then_exit ?_ | refine ng_exit ?_ | refine blk_exit ?_ | refine blk_exit_ne rfl ?_)
        refine wp_seq ?_
        refine wp_seq ?_
        refine wp_region_lit ?_
        by_cases h2 : L < q
        · refine ev0 [0, 0, 1] tab hF hH rfl (by first | exact trivial | (simp only [All, inK_i64, inK_u64, inK_u32, inK_u8, inK_i32, max_i64, max_u64, IntKind.bits, Int.reduceToNat, Int.reduceAdd, Nat.reducePow, Int.reducePow, and_true, true_and, and_self] <;> omega)) ?_
          intro A w hF hH
          refine wpList_nil ?_
          refine cond_t hF rfl rfl ?_
          refine wp_seq ?_
          refine wp_region_lit ?_
          refine evM [⟨b, [.int .i64 0, .int .i64 0], 28⟩] [0, 0, 0] tab hF hH rfl (by first | exact trivial | (simp only [All, inK_i64, inK_u64, inK_u32, inK_u8, inK_i32, max_i64, max_u64, IntKind.bits, Int.reduceToNat, Int.reduceAdd, Nat.reducePow, Int.reducePow, and_true, true_and, and_self] <;> omega)) ?_
          intro A w hF hH
          refine wpList_nil ?_
          refine wp_ret ?_
          repeat (first | refine then_ret ?_ | refine blk_ret ?_ | refine ng_ret ?_)
          refine ret (M := [⟨b, [.int .i64 0, .int .i64 0], 28⟩]) (hs := [0]) tab hF hH rfl (by first | exact trivial | (simp only [All, inK_i64, inK_u64, inK_u32, inK_u8, inK_i32, max_i64, max_u64, IntKind.bits, Int.reduceToNat, Int.reduceAdd, Nat.reducePow, Int.reducePow, and_true, true_and, and_self] <;> omega)) ?_
          rw [show weightF ps = (0, 0, 18) from by simp [weightF, h0, hL, h1, ← hqe, h2]]
          exact ⟨_, _, rfl, hH.tail⟩
        · have he : weightF ps = (min (L / minP ps + sumS L ps) L, L, 0) := by simp [weightF, h0, hL, h1, ← hqe, h2]
          rw [he]
          have d1 : 0 ≤ L / m := Int.ediv_nonneg (by omega) (by omega)
          have d2 : L / m ≤ L := Int.ediv_le_self _ (by omega)
          refine ev0 [0, 0, 2] tab hF hH rfl (by first | exact trivial | (simp only [All, inK_i64, inK_u64, inK_u32, inK_u8, inK_i32, max_i64, max_u64, IntKind.bits, Int.reduceToNat, Int.reduceAdd, Nat.reducePow, Int.reducePow, and_true, true_and, and_self] <;> omega)) ?_
          intro A w hF hH
          refine wpList_nil ?_
          refine cond_f hF rfl rfl ?_
          refine wp_skip ?_
          refine wp_seq ?_
          refine wp_region_lit ?_
          refine ev0 [0, 0, 0, 0, 0, 0] tab hF hH rfl (by first | exact trivial | (simp only [All, inK_i64, inK_u64, inK_u32, inK_u8, inK_i32, max_i64, max_u64, IntKind.bits, Int.reduceToNat, Int.reduceAdd, Nat.reducePow, Int.reducePow, and_true, true_and, and_self] <;> omega)) ?_
          intro A w hF hH
          refine wpList_nil ?_
          refine wp_seq ?_
          refine wp_seq ?_
          refine wp_region_lit ?_
          by_cases h3 : L < q + L / m
          · refine ev0 [0, 0, 1] tab hF hH rfl (by first | exact trivial | (simp only [All, inK_i64, inK_u64, inK_u32, inK_u8, inK_i32, max_i64, max_u64, IntKind.bits, Int.reduceToNat, Int.reduceAdd, Nat.reducePow, Int.reducePow, and_true, true_and, and_self] <;> omega)) ?_
            intro A w hF hH
            refine wpList_nil ?_
            refine cond_t hF rfl rfl ?_
            refine wp_region_lit ?_
            refine ev0 [0, 0] tab hF hH rfl (by first | exact trivial | (simp only [All, inK_i64, inK_u64, inK_u32, inK_u8, inK_i32, max_i64, max_u64, IntKind.bits, Int.reduceToNat, Int.reduceAdd, Nat.reducePow, Int.reducePow, and_true, true_and, and_self] <;> omega)) ?_
            intro A w hF hH
            refine wpList_nil ?_
            refine wp_seq ?_
            refine wp_region_lit ?_
            refine evM [⟨b, [.int .i64 0, .int .i64 0], 28⟩] [0, 0, 0, 0, 0] tab hF hH rfl (by first | exact trivial | (simp only [All, inK_i64, inK_u64, inK_u32, inK_u8, inK_i32, max_i64, max_u64, IntKind.bits, Int.reduceToNat, Int.reduceAdd, Nat.reducePow, Int.reducePow, and_true, true_and, and_self] <;> omega)) ?_
            intro A w hF hH
            refine wpList_nil ?_
            refine wp_ret ?_
            repeat (first | refine then_ret ?_ | refine blk_ret ?_ | refine ng_ret ?_)
            refine ret (M := [⟨b, [.int .i64 L, .int .i64 L], 28⟩]) (hs := [0]) tab hF hH rfl (by first | exact trivial | (simp only [All, inK_i64, inK_u64, inK_u32, inK_u8, inK_i32, max_i64, max_u64, IntKind.bits, Int.reduceToNat, Int.reduceAdd, Nat.reducePow, Int.reducePow, and_true, true_and, and_self] <;> omega)) ?_
            exact ⟨_, _, rfl, hH.tail⟩
          · skip
            refine ev0 [0, 0, 2] tab hF hH rfl (by first | exact trivial | (simp only [All, inK_i64, inK_u64, inK_u32, inK_u8, inK_i32, max_i64, max_u64, IntKind.bits, Int.reduceToNat, Int.reduceAdd, Nat.reducePow, Int.reducePow, and_true, true_and, and_self] <;> omega)) ?_
            intro A w hF hH
            refine wpList_nil ?_
            refine cond_f hF rfl rfl ?_
            refine wp_skip ?_
            refine wp_seq ?_
            refine wp_region_lit ?_
            refine evM [⟨b, [.int .i64 0, .int .i64 0], 28⟩] [0, 0, 0, 0, 0] tab hF hH rfl (by first | exact trivial | (simp only [All, inK_i64, inK_u64, inK_u32, inK_u8, inK_i32, max_i64, max_u64, IntKind.bits, Int.reduceToNat, Int.reduceAdd, Nat.reducePow, Int.reducePow, and_true, true_and, and_self] <;> omega)) ?_
            intro A w hF hH
            refine wpList_nil ?_
            refine wp_ret ?_
            repeat (first | refine then_ret ?_ | refine blk_ret ?_ | refine ng_ret ?_)
            refine ret (M := [⟨b, [.int .i64 (q + L / m), .int .i64 L], 28⟩]) (hs := [0]) tab hF hH rfl (by first | exact trivial | (simp only [All, inK_i64, inK_u64, inK_u32, inK_u8, inK_i32, max_i64, max_u64, IntKind.bits, Int.reduceToNat, Int.reduceAdd, Nat.reducePow, Int.reducePow, and_true, true_and, and_self] <;> omega)) ?_
            exact ⟨_, _, rfl, hH.tail⟩
set_option maxRecDepth 20000 in
theorem rnew_calls {v : Value} {ps : List (Int × Int)} {a0 : Int} (hv : Rd κ [] 2 wenc v ps) (hH : Hp κ w C) :
    Calls Try.prog 20 #[v, .int .i64 a0] w (fun e w' => ∃ r, e = .returned (.pointer (some ⟨r, 0, none⟩)) ∧ Hp κ w' (row r (rcells v a0 (newS a0 ps)) 56 :: C)) := by
  obtain ⟨A0, cap, rfl, hcap⟩ := hv.form
  have hz : dn (newS a0 ps).ps = List.replicate 8 (.int .i64 0) := by
    apply List.ext_getElem?
    intro i
    by_cases hi : i < 8
    · simp only [dn, List.getElem?_map, List.getElem?_range, hi, Option.map_some, List.getElem?_replicate, if_true, srvD, newS, newPs, List.getElem?_mapIdx, Option.some.injEq, Value.int.injEq, true_and]
      cases ps[i]? with
      | none => rfl
      | some p => simp [newP, srv]
    · rw [List.getElem?_eq_none (by rw [dn_len]; omega), List.getElem?_eq_none (by simp; omega)]
  refine enter (args := [.slice A0 ps.length cap, .int .i64 a0]) Try.func20 rfl rfl ?_
  intro A hF
  refine wp_seq ?_
  refine wp_region_lit ?_
  refine ev0 [0] tab hF hH rfl (by first | exact trivial | (simp only [All, inK_i64, inK_u64, inK_u32, inK_u8, inK_i32, max_i64, max_u64, IntKind.bits, Int.reduceToNat, Int.reduceAdd, Nat.reducePow, Int.reducePow, and_true, true_and, and_self] <;> omega)) ?_
  intro A w hF hH
  refine wpList_nil ?_
  refine wp_seq ?_
  refine wp_region_lit ?_
  refine ev0 [0, 0, 0, 0] tab hF hH rfl (by first | exact trivial | (simp only [All, inK_i64, inK_u64, inK_u32, inK_u8, inK_i32, max_i64, max_u64, IntKind.bits, Int.reduceToNat, Int.reduceAdd, Nat.reducePow, Int.reducePow, and_true, true_and, and_self] <;> omega)) ?_
  intro A w hF hH
  refine list_act hF rfl ?_
  refine op_box hF rfl rfl rfl rfl rfl hH ?_
  intro r A w hF hH
  refine ev0 [0] tab hF hH rfl (by first | exact trivial | (simp only [All, inK_i64, inK_u64, inK_u32, inK_u8, inK_i32, max_i64, max_u64, IntKind.bits, Int.reduceToNat, Int.reduceAdd, Nat.reducePow, Int.reducePow, and_true, true_and, and_self] <;> omega)) ?_
  intro A w hF hH
  refine wpList_nil ?_
  refine wp_ret ?_
  repeat (first | refine then_ret ?_ | refine blk_ret ?_ | refine ng_ret ?_)
  refine ret (M := []) (hs := []) tab hF hH rfl (by first | exact trivial | (simp only [All, inK_i64, inK_u64, inK_u32, inK_u8, inK_i32, max_i64, max_u64, IntKind.bits, Int.reduceToNat, Int.reduceAdd, Nat.reducePow, Int.reducePow, and_true, true_and, and_self] <;> omega)) ?_
  refine ⟨r, rfl, ?_⟩
  rw [show rcells (.slice A0 ps.length cap) a0 (newS a0 ps) = .slice A0 ps.length cap :: .int .i64 a0 :: .int .i64 a0 :: (List.replicate 8 (.int .i64 0) ++ [.int .i64 0, .int .i64 0]) from by
    rw [rcells, hz]; rfl]
  exact hH
set_option maxRecDepth 20000 in
theorem same_calls {A1 A2 : Option Addr} {c1 c2 : Nat} (J : List Prt) (hl : J.length ≤ 1000000) (hH : Hp κ w (osl (.slice A1 J.length c1) 40 5 J.length (J.flatMap jenc) :: osl (.slice A2 J.length c2) 40 5 J.length (J.flatMap jenc) :: C)) :
    Calls Try.prog 22 #[.slice A1 J.length c1, .slice A2 J.length c2] w (fun e w' => e = .returned (.bool true) ∧ Hp κ w' C) := by
  refine enter (args := [.slice A1 J.length c1, .slice A2 J.length c2]) Try.func22 rfl rfl ?_
  intro A hF
  refine wp_seq ?_
  refine wp_region_lit ?_
  refine ev0 [0] tab hF hH rfl (by first | exact trivial | (simp only [All, inK_i64, inK_u64, inK_u32, inK_u8, inK_i32, max_i64, max_u64, IntKind.bits, Int.reduceToNat, Int.reduceAdd, Nat.reducePow, Int.reducePow, and_true, true_and, and_self] <;> omega)) ?_
  intro A w hF hH
  refine wpList_nil ?_
  refine wp_seq ?_
  refine wp_seq ?_
  refine wp_region_lit ?_
  refine ev0 [0, 0, 0, 0, 2] tab hF hH rfl (by first | exact trivial | (simp only [All, inK_i64, inK_u64, inK_u32, inK_u8, inK_i32, max_i64, max_u64, IntKind.bits, Int.reduceToNat, Int.reduceAdd, Nat.reducePow, Int.reducePow, and_true, true_and, and_self] <;> omega)) ?_
  intro A w hF hH
  refine wpList_nil ?_
  refine cond_f hF rfl rfl ?_
  refine wp_skip ?_
  refine wp_seq ?_
  refine wp_seq ?_
  refine wp_region_lit ?_
  refine ev0 [0] tab hF hH rfl (by first | exact trivial | (simp only [All, inK_i64, inK_u64, inK_u32, inK_u8, inK_i32, max_i64, max_u64, IntKind.bits, Int.reduceToNat, Int.reduceAdd, Nat.reducePow, Int.reducePow, and_true, true_and, and_self] <;> omega)) ?_
  intro A w hF hH
  refine wpList_nil ?_
  refine wp_block ?_
  refine loop_j (fun (i : Nat) A w => i ≤ J.length ∧ Fr 26 A [(5, .int .i64 i), (0, .slice A1 J.length c1), (1, .slice A2 J.length c2)] ∧ Hp κ w (osl (.slice A1 J.length c1) 40 5 J.length (J.flatMap jenc) :: osl (.slice A2 J.length c2) 40 5 J.length (J.flatMap jenc) :: C)) (fun i => J.length - i) 0 ⟨Nat.zero_le _, Fr.to hF ⟨rfl, rfl, rfl, trivial⟩, hH⟩ ?_
  rintro i A w ⟨hi, hF, hH⟩
  refine wp_seq ?_
  refine wp_seq ?_
  refine wp_region_lit ?_
  by_cases hlt : i < J.length
  · refine ev0 [0, 0, 0, 1] tab hF hH rfl (by first | exact trivial | (simp only [All, inK_i64, inK_u64, inK_u32, inK_u8, inK_i32, max_i64, max_u64, IntKind.bits, Int.reduceToNat, Int.reduceAdd, Nat.reducePow, Int.reducePow, and_true, true_and, and_self] <;> omega)) ?_
    intro A w hF hH
    refine wpList_nil ?_
    refine cond_t hF rfl rfl ?_
    refine wp_skip ?_
    refine wp_seq ?_
    refine wp_block ?_
    refine wp_seq ?_
    obtain ⟨b1, rfl⟩ := osl_addr hH (by omega)
    obtain ⟨b2, rfl⟩ := osl_addr hH.swap (by omega)
    have a1 := At.osl (κ := κ) (X := [osl (.slice (some ⟨b1, 0, none⟩) J.length c1) 40 5 J.length (J.flatMap jenc), osl (.slice (some ⟨b2, 0, none⟩) J.length c2) 40 5 J.length (J.flatMap jenc)]) (off := i * 5) (vs := jenc J[i]) 0 rfl (getJ0 J i _ hlt rfl)
    have a2 := At.osl (κ := κ) (X := [osl (.slice (some ⟨b1, 0, none⟩) J.length c1) 40 5 J.length (J.flatMap jenc), osl (.slice (some ⟨b2, 0, none⟩) J.length c2) 40 5 J.length (J.flatMap jenc)]) (off := i * 5) (vs := jenc J[i]) 1 rfl (getJ0 J i _ hlt rfl)
    generalize J[i] = p at *
    refine dr_reads (by kernel_rfl) [] [osl (.slice (some ⟨b1, 0, none⟩) J.length c1) 40 5 J.length (J.flatMap jenc), osl (.slice (some ⟨b2, 0, none⟩) J.length c2) 40 5 J.length (J.flatMap jenc)] [] [(0, 0), (1, 0), (2, 0), (3, 1), (4, 0), (5, 0), (6, 0), (7, 3)] 1 tab (LFok.cons a1 (LFok.cons a2 (LFok.nil _ _))) (by kernel_rfl) rfl hF hH (by kernel_rfl) rfl (by first | exact trivial | (simp only [All, inK_i64, inK_u64, inK_u32, inK_u8, inK_i32, max_i64, max_u64, IntKind.bits, Int.reduceToNat, Int.reduceAdd, Nat.reducePow, Int.reducePow, and_true, true_and, and_self] <;> omega)) ?_
    intro A w hF hH
    refine dr_act (k := 8) (by kernel_rfl) rfl hF rfl ?_
    refine op_neS [.i64, .i64, .i64, .i64, .i64] hF rfl rfl rfl rfl rfl (by kernel_rfl) rfl rfl ?_
    intro rr A hr hF
    refine ⟨fun _ => Keeps.of hH (K.le.refl _), ?_⟩
    refine dr_done (by kernel_rfl) ?_ _
    have hr : rr = false := by
      cases rr with
      | false => rfl
      | true => exact absurd rfl (hr.1 rfl)
    subst hr
    refine cond_f hF rfl rfl ?_
    refine wp_skip ?_
    refine wp_region_lit ?_
    refine ev0 [0, 0, 0] tab hF hH rfl (by first | exact trivial | (simp only [All, inK_i64, inK_u64, inK_u32, inK_u8, inK_i32, max_i64, max_u64, IntKind.bits, Int.reduceToNat, Int.reduceAdd, Nat.reducePow, Int.reducePow, and_true, true_and, and_self] <;> omega)) ?_
    intro A w hF hH
    refine wpList_nil ?_
    exact ⟨i + 1, ⟨by omega, Fr.to hF ⟨rfl, rfl, rfl, trivial⟩, hH⟩, by omega⟩
  · skip
    refine ev0 [0, 0, 0, 2] tab hF hH rfl (by first | exact trivial | (simp only [All, inK_i64, inK_u64, inK_u32, inK_u8, inK_i32, max_i64, max_u64, IntKind.bits, Int.reduceToNat, Int.reduceAdd, Nat.reducePow, Int.reducePow, and_true, true_and, and_self] <;> omega)) ?_
    intro A w hF hH
    refine wpList_nil ?_
    refine cond_f hF rfl rfl ?_
    refine wp_exit ?_
    repeat (first | refine then_exit ?_ | refine ng_exit ?_ | refine blk_exit ?_ | refine blk_exit_ne rfl ?_)
    refine wp_seq ?_
    refine wp_region_lit ?_
    refine ev0 [0] tab hF hH rfl (by first | exact trivial | (simp only [All, inK_i64, inK_u64, inK_u32, inK_u8, inK_i32, max_i64, max_u64, IntKind.bits, Int.reduceToNat, Int.reduceAdd, Nat.reducePow, Int.reducePow, and_true, true_and, and_self] <;> omega)) ?_
    intro A w hF hH
    refine wpList_nil ?_
    refine wp_ret ?_
    repeat (first | refine then_ret ?_ | refine blk_ret ?_ | refine ng_ret ?_)
    refine ret (M := []) (hs := []) tab hF hH rfl (by first | exact trivial | (simp only [All, inK_i64, inK_u64, inK_u32, inK_u8, inK_i32, max_i64, max_u64, IntKind.bits, Int.reduceToNat, Int.reduceAdd, Nat.reducePow, Int.reducePow, and_true, true_and, and_self] <;> omega)) ?_
    exact ⟨rfl, hH.tail.tail⟩
end
end Go.Proofs.Try
