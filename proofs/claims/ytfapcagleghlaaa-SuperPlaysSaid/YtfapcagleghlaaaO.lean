/- Contracts of the naturals' functions: made of a number, added. -/
import Derived.Test.YtfapcagleghlaaaN
set_option linter.all false
namespace Go.Proofs.Try
open Go Go.Sep

theorem val_two (n : Int) : val [n % 4294967296, n / 4294967296] = n := by simp only [val]; omega
set_option maxRecDepth 20000 in
theorem of_calls (κ : K) (n : Int) (h0 : 0 ≤ n) (h1 : n ≤ 18446744073709551615) (w : World) (C : List HP) (hH : Hp κ w C) :
    Calls Try.prog 59 #[.int .u64 n] w (fun e w' => ∃ κ' v ds, κ.le κ' ∧ e = .returned v ∧ NatR κ' v n ds ∧ Hp κ' w' C) := by
  refine enter (args := [.int .u64 n]) Try.func59 rfl rfl ?_
  intro A hF
  refine wp_seq ?_
  refine wp_region_lit ?_
  refine ev0 [0] tab hF hH rfl (by first | exact trivial | (simp only [All, inK_i64, inK_u64, inK_u32, inK_u8, inK_i32, max_i64, max_u64, IntKind.bits, Int.reduceToNat, Int.reduceAdd, Nat.reducePow, Int.reducePow, and_true, true_and, and_self] <;> omega)) ?_
  intro A w hF hH
  refine wpList_nil ?_
  refine wp_seq ?_
  refine wp_region_lit ?_
  refine ev0 [0, 1, 0, 0, 1] tab hF hH rfl (by first | exact trivial | (simp only [All, inK_i64, inK_u64, inK_u32, inK_u8, inK_i32, max_i64, max_u64, IntKind.bits, Int.reduceToNat, Int.reduceAdd, Nat.reducePow, Int.reducePow, and_true, true_and, and_self] <;> omega)) ?_
  intro A w hF hH
  simp only [Int.reduceToNat, Int.reducePow, wrap_u32] at hF
  refine list_act hF rfl ?_
  refine op_buildSlice hF tab rfl rfl rfl rfl rfl rfl rfl rfl hH ?_
  intro b A w hF hH
  obtain ⟨κ', l, hH, hro⟩ := row_freeze hH
  have e1 : n / 4294967296 % 4294967296 = n / 4294967296 := by omega
  have hrd : Rd κ' [] 1 u32 (.slice (some ⟨b, 0, none⟩) 2 2) [n % 4294967296, n / 4294967296] := hro.rd rfl (Nat.le_refl _) (fun j u hu => by simpa [u32, e1] using hu)
  refine list_act hF rfl ?_
  refine op_call hF rfl rfl rfl rfl rfl rfl isF75 (cut_calls κ' _ _ hrd (by intro d hd; simp at hd; omega) (by simp) _ _ hH) ?_
  rintro e w ⟨v, ds, rfl, hn, hH⟩
  refine ⟨_, rfl, fun A hF => ?_⟩
  rw [val_two] at hn
  refine ev0 [0] tab hF hH rfl (by first | exact trivial | (simp only [All, inK_i64, inK_u64, inK_u32, inK_u8, inK_i32, max_i64, max_u64, IntKind.bits, Int.reduceToNat, Int.reduceAdd, Nat.reducePow, Int.reducePow, and_true, true_and, and_self] <;> omega)) ?_
  intro A w hF hH
  refine wpList_nil ?_
  refine wp_ret ?_
  repeat (first | refine then_ret ?_ | refine blk_ret ?_ | refine ng_ret ?_)
  refine ret (M := []) (hs := []) tab hF hH rfl (by first | exact trivial | (simp only [All, inK_i64, inK_u64, inK_u32, inK_u8, inK_i32, max_i64, max_u64, IntKind.bits, Int.reduceToNat, Int.reduceAdd, Nat.reducePow, Int.reducePow, and_true, true_and, and_self] <;> omega)) ?_
  exact ⟨κ', v, ds, l, rfl, hn, hH⟩
set_option maxRecDepth 20000 in
theorem carrier_calls (κ : K) (b off len cap : Nat) (w : World) (C : List HP) (hH : Hp κ w C) :
    Calls Try.prog 73 #[.slice (some ⟨b, off, none⟩) len cap] w (fun e w' => ∃ bc bo, e = .returned (.func (.func 83) #[] #[.pointer (some ⟨bc, 0, none⟩), .pointer (some ⟨bo, 0, none⟩)]) ∧
      Hp κ w' (row bc [.int .u64 0] 68 :: row bo [.slice (some ⟨b, off, none⟩) len cap] 63 :: C)) := by
  refine enter (args := [.slice (some ⟨b, off, none⟩) len cap]) Try.func73 rfl rfl ?_
  intro A hF
  refine wp_seq ?_
  refine wp_region_lit ?_
  refine list_act hF rfl ?_
  refine op_box hF rfl rfl rfl rfl rfl hH ?_
  intro bo A w hF hH
  refine ev0 [0] tab hF hH rfl (by first | exact trivial | (simp only [All, inK_i64, inK_u64, inK_u32, inK_u8, inK_i32, max_i64, max_u64, IntKind.bits, Int.reduceToNat, Int.reduceAdd, Nat.reducePow, Int.reducePow, and_true, true_and, and_self] <;> omega)) ?_
  intro A w hF hH
  refine wpList_nil ?_
  refine wp_seq ?_
  refine wp_region_lit ?_
  refine list_act hF rfl ?_
  refine op_alloc hF tab rfl rfl rfl rfl rfl hH ?_
  intro bc A w hF hH
  refine evM [⟨bc, [.int .u64 0], 68⟩] [0] tab hF hH rfl (by first | exact trivial | (simp only [All, inK_i64, inK_u64, inK_u32, inK_u8, inK_i32, max_i64, max_u64, IntKind.bits, Int.reduceToNat, Int.reduceAdd, Nat.reducePow, Int.reducePow, and_true, true_and, and_self] <;> omega)) ?_
  intro A w hF hH
  refine wpList_nil ?_
  refine wp_seq ?_
  refine wp_region_lit ?_
  refine ev0 [0, 0] tab hF hH rfl (by first | exact trivial | (simp only [All, inK_i64, inK_u64, inK_u32, inK_u8, inK_i32, max_i64, max_u64, IntKind.bits, Int.reduceToNat, Int.reduceAdd, Nat.reducePow, Int.reducePow, and_true, true_and, and_self] <;> omega)) ?_
  intro A w hF hH
  refine wpList_nil ?_
  refine wp_ret ?_
  repeat (first | refine then_ret ?_ | refine blk_ret ?_ | refine ng_ret ?_)
  refine ret (M := []) (hs := []) tab hF hH rfl (by first | exact trivial | (simp only [All, inK_i64, inK_u64, inK_u32, inK_u8, inK_i32, max_i64, max_u64, IntKind.bits, Int.reduceToNat, Int.reduceAdd, Nat.reducePow, Int.reducePow, and_true, true_and, and_self] <;> omega)) ?_
  exact ⟨bc, bo, rfl, hH⟩
set_option maxRecDepth 20000 in
theorem put_calls (κ : K) (w : World) (C : List HP) (bc bo b off len cap : Nat) (ds : List Int) (i : Nat) (n c : Int) (hi : i < len) (hoff : off + i < ds.length) (hn : 0 ≤ n) (hc : 0 ≤ c) (hnc : n + c ≤ 18446744073709551615)
    (hH : Hp κ w (row bc [.int .u64 c] 68 :: row bo [.slice (some ⟨b, off, none⟩) len cap] 63 :: row b (ds.map (Value.int .u32)) 108 :: C)) :
    Calls Try.prog 83 #[.int .i64 i, .int .u64 n, .pointer (some ⟨bc, 0, none⟩), .pointer (some ⟨bo, 0, none⟩)] w (fun e w' => e = .returned (.tuple #[]) ∧
      Hp κ w' (row bc [.int .u64 ((n + c) / 4294967296)] 68 :: row bo [.slice (some ⟨b, off, none⟩) len cap] 63 :: row b ((ds.set (off + i) ((n + c) % 4294967296)).map (Value.int .u32)) 108 :: C)) := by
  refine enter (args := [.int .i64 i, .int .u64 n, .pointer (some ⟨bc, 0, none⟩), .pointer (some ⟨bo, 0, none⟩)]) Try.func83 rfl rfl ?_
  intro A hF
  refine wp_seq ?_
  refine wp_region_lit ?_
  refine evM [⟨bc, [.int .u64 c], 68⟩] [0, 0, 0, 0] tab hF hH rfl (by first | exact trivial | (simp only [All, inK_i64, inK_u64, inK_u32, inK_u8, inK_i32, max_i64, max_u64, IntKind.bits, Int.reduceToNat, Int.reduceAdd, Nat.reducePow, Int.reducePow, and_true, true_and, and_self] <;> omega)) ?_
  intro A w hF hH
  refine wpList_nil ?_
  refine wp_seq ?_
  refine wp_region_lit ?_
  refine evM [⟨bc, [.int .u64 c], 68⟩, ⟨bo, [.slice (some ⟨b, off, none⟩) len cap], 63⟩] [2, 0, 0, 1, 0] tab hF hH rfl (by first | exact trivial | (simp only [All, inK_i64, inK_u64, inK_u32, inK_u8, inK_i32, max_i64, max_u64, IntKind.bits, Int.reduceToNat, Int.reduceAdd, Nat.reducePow, Int.reducePow, and_true, true_and, and_self] <;> omega)) ?_
  intro A w hF hH
  simp only [Int.toNat_natCast, wrap_u32] at hF
  have hH := rot3 hH
  refine list_act hF rfl ?_
  refine op_storeS hF tab rfl rfl rfl rfl rfl rfl (by simp; omega) hH ?_
  intro A w hF hH
  refine wpList_nil ?_
  refine wp_region_lit ?_
  simp only [Nat.mul_one, set_map] at hH
  have hH := rot3' hH
  refine evM [⟨bc, [.int .u64 c], 68⟩] [0, 0, 0] tab hF hH rfl (by first | exact trivial | (simp only [All, inK_i64, inK_u64, inK_u32, inK_u8, inK_i32, max_i64, max_u64, IntKind.bits, Int.reduceToNat, Int.reduceAdd, Nat.reducePow, Int.reducePow, and_true, true_and, and_self] <;> omega)) ?_
  intro A w hF hH
  simp only [Int.reduceToNat, Int.reducePow] at hF
  refine wpList_nil ?_
  simp only [Int.reduceToNat, Int.reducePow] at hH
  refine fin (M := []) (hs := []) tab hF hH rfl (by first | exact trivial | (simp only [All, inK_i64, inK_u64, inK_u32, inK_u8, inK_i32, max_i64, max_u64, IntKind.bits, Int.reduceToNat, Int.reduceAdd, Nat.reducePow, Int.reducePow, and_true, true_and, and_self] <;> omega)) ?_
  exact ⟨rfl, hH⟩
end Go.Proofs.Try
