/- Contracts of the naturals' functions: sums. -/
import Derived.Test.YtfapcagleghlaaaO
set_option linter.all false
namespace Go.Proofs.Try
open Go Go.Sep

theorem set_pre (pre rest : List Int) (x y : Int) : (pre ++ y :: rest).set (0 + pre.length) x = (pre ++ [x]) ++ rest := by
  rw [Nat.zero_add, List.set_append_right _ _ (Nat.le_refl _), Nat.sub_self, List.set_cons_zero, List.append_assoc]; rfl
theorem zeros_u32 (m : Nat) : (List.replicate m [Value.int .u32 0]).flatten = (List.replicate m (0 : Int)).map (Value.int .u32) := by rw [zeros_row]; simp
set_option maxRecDepth 20000 in
theorem add_calls (κ : K) (va vb : Value) (a b : Int) (da db : List Int) (ha : NatR κ va a da) (hb : NatR κ vb b db) (hla : da.length < 1073741824) (hlb : db.length < 1073741824) (w : World) (C : List HP) (hH : Hp κ w C) :
    Calls Try.prog 85 #[va, vb] w (fun e w' => ∃ κ' v ds, κ.le κ' ∧ e = .returned v ∧ NatR κ' v (a + b) ds ∧ Hp κ' w' C) := by
  obtain ⟨A1, cap1, rfl, hcap1⟩ := ha.rd.form
  obtain ⟨A2, cap2, rfl, hcap2⟩ := hb.rd.form
  obtain ⟨m, hm⟩ : ∃ m : Nat, m = max da.length db.length + 1 := ⟨_, rfl⟩
  have hm' : max (da.length : Int) db.length + 1 = (m : Int) := by omega
  refine enter (args := [.slice A1 da.length cap1, .slice A2 db.length cap2]) Try.func85 rfl rfl ?_
  intro A hF
  refine wp_seq ?_
  refine wp_region_lit ?_
  refine ev0 [0] tab hF hH rfl (by first | exact trivial | (simp only [All, inK_i64, inK_u64, inK_u32, inK_u8, inK_i32, max_i64, max_u64, IntKind.bits, Int.reduceToNat, Int.reduceAdd, Nat.reducePow, Int.reducePow, and_true, true_and, and_self] <;> omega)) ?_
  intro A w hF hH
  refine wpList_nil ?_
  refine wp_seq ?_
  refine wp_region_lit ?_
  refine ev0 [0, 0, 0, 0, 0, 0] tab hF hH rfl (by first | exact trivial | (simp only [All, inK_i64, inK_u64, inK_u32, inK_u8, inK_i32, max_i64, max_u64, IntKind.bits, Int.reduceToNat, Int.reduceAdd, Nat.reducePow, Int.reducePow, and_true, true_and, and_self] <;> omega)) ?_
  intro A w hF hH
  simp only [hm'] at hF
  refine list_act hF rfl ?_
  refine op_make (m := m) hF tab rfl rfl rfl rfl rfl rfl rfl rfl ?_ ?_ hH ?_
  · first | omega | (simp [maxLen]; omega) | (simp [maxLen])
  · first | omega | (simp only; omega)
  intro b A w hF hH
  have hH : Hp κ w (row b (List.replicate m [Value.int .u32 0]).flatten 108 :: C) := hH
  rw [zeros_u32] at hH
  refine ev0 [0] tab hF hH rfl (by first | exact trivial | (simp only [All, inK_i64, inK_u64, inK_u32, inK_u8, inK_i32, max_i64, max_u64, IntKind.bits, Int.reduceToNat, Int.reduceAdd, Nat.reducePow, Int.reducePow, and_true, true_and, and_self] <;> omega)) ?_
  intro A w hF hH
  refine wpList_nil ?_
  refine wp_seq ?_
  refine wp_region_lit ?_
  refine ev0 [0] tab hF hH rfl (by first | exact trivial | (simp only [All, inK_i64, inK_u64, inK_u32, inK_u8, inK_i32, max_i64, max_u64, IntKind.bits, Int.reduceToNat, Int.reduceAdd, Nat.reducePow, Int.reducePow, and_true, true_and, and_self] <;> omega)) ?_
  intro A w hF hH
  refine list_act hF rfl ?_
  refine op_call hF rfl rfl rfl rfl rfl rfl isF73 (carrier_calls κ b 0 m m _ _ hH) ?_
  rintro e w ⟨bc, bo, rfl, hH⟩
  refine ⟨_, rfl, fun A hF => ?_⟩
  refine ev0 [0] tab hF hH rfl (by first | exact trivial | (simp only [All, inK_i64, inK_u64, inK_u32, inK_u8, inK_i32, max_i64, max_u64, IntKind.bits, Int.reduceToNat, Int.reduceAdd, Nat.reducePow, Int.reducePow, and_true, true_and, and_self] <;> omega)) ?_
  intro A w hF hH
  refine wpList_nil ?_
  refine wp_seq ?_
  refine wp_seq ?_
  refine wp_region_lit ?_
  refine ev0 [0, 0, 0] tab hF hH rfl (by first | exact trivial | (simp only [All, inK_i64, inK_u64, inK_u32, inK_u8, inK_i32, max_i64, max_u64, IntKind.bits, Int.reduceToNat, Int.reduceAdd, Nat.reducePow, Int.reducePow, and_true, true_and, and_self] <;> omega)) ?_
  intro A w hF hH
  refine wpList_nil ?_
  refine wp_block ?_
  refine loop_j (fun (i : Nat) A w => i ≤ m ∧ ∃ pre c, pre.length = i ∧ 0 ≤ c ∧ c ≤ 1 ∧ pre ++ addc (m - i) c (da.drop i) (db.drop i) = addc m 0 da db ∧ Fr 35 A [(19, .int .i64 i), (18, .int .i64 m), (0, .slice A1 da.length cap1), (1, .slice A2 db.length cap2), (5, .slice (some ⟨b, 0, none⟩) m m), (6, .func (.func 83) #[] #[.pointer (some ⟨bc, 0, none⟩), .pointer (some ⟨bo, 0, none⟩)])] ∧ Hp κ w (row bc [.int .u64 c] 68 :: row bo [.slice (some ⟨b, 0, none⟩) m m] 63 :: row b ((pre ++ List.replicate (m - i) 0).map (Value.int .u32)) 108 :: C)) (fun i => m - i) 0 ⟨Nat.zero_le _, [], 0, rfl, by omega, by omega, rfl, Fr.to hF ⟨rfl, rfl, rfl, rfl, rfl, rfl, trivial⟩, hH⟩ ?_
  rintro i A w ⟨hi, pre, c, hpre, hc0, hc1, hadd, hF, hH⟩
  refine wp_seq ?_
  refine wp_region_lit ?_
  by_cases hlt : i < m
  · refine ev0 [1] tab hF hH rfl (by first | exact trivial | (simp only [All, inK_i64, inK_u64, inK_u32, inK_u8, inK_i32, max_i64, max_u64, IntKind.bits, Int.reduceToNat, Int.reduceAdd, Nat.reducePow, Int.reducePow, and_true, true_and, and_self] <;> omega)) ?_
    intro A w hF hH
    refine wpList_nil ?_
    refine wp_seq ?_
    refine cond_t hF rfl rfl ?_
    refine wp_skip ?_
    refine wp_seq ?_
    refine wp_block ?_
    refine wp_seq ?_
    refine wp_region_lit ?_
    obtain ⟨k, hk⟩ : ∃ k, m - i = k + 1 := ⟨m - i - 1, by omega⟩
    have r1 := hd_range (ha.limbs.drop i)
    have r2 := hd_range (hb.limbs.drop i)
    rw [hk, List.replicate_succ] at hH
    rw [hk] at hadd
    simp only [addc] at hadd
    refine ev0 [0, 0] tab hF hH rfl (by first | exact trivial | (simp only [All, inK_i64, inK_u64, inK_u32, inK_u8, inK_i32, max_i64, max_u64, IntKind.bits, Int.reduceToNat, Int.reduceAdd, Nat.reducePow, Int.reducePow, and_true, true_and, and_self] <;> omega)) ?_
    intro A w hF hH
    refine wpList_nil ?_
    refine wp_region_lit ?_
    refine ev0 [0, 0, 0, 0] tab hF hH rfl (by first | exact trivial | (simp only [All, inK_i64, inK_u64, inK_u32, inK_u8, inK_i32, max_i64, max_u64, IntKind.bits, Int.reduceToNat, Int.reduceAdd, Nat.reducePow, Int.reducePow, and_true, true_and, and_self] <;> omega)) ?_
    intro A w hF hH
    refine list_act hF rfl ?_
    refine op_call hF rfl rfl rfl rfl rfl rfl isF74 (at_calls κ _ da ha.rd ha.limbs (by omega) i _ _ hH) ?_
    rintro e w ⟨rfl, hH⟩
    refine ⟨_, rfl, fun A hF => ?_⟩
    refine ev0 [0, 0] tab hF hH rfl (by first | exact trivial | (simp only [All, inK_i64, inK_u64, inK_u32, inK_u8, inK_i32, max_i64, max_u64, IntKind.bits, Int.reduceToNat, Int.reduceAdd, Nat.reducePow, Int.reducePow, and_true, true_and, and_self] <;> omega)) ?_
    intro A w hF hH
    refine list_act hF rfl ?_
    refine op_call hF rfl rfl rfl rfl rfl rfl isF74 (at_calls κ _ db hb.rd hb.limbs (by omega) i _ _ hH) ?_
    rintro e w ⟨rfl, hH⟩
    refine ⟨_, rfl, fun A hF => ?_⟩
    refine ev0 [0] tab hF hH rfl (by first | exact trivial | (simp only [All, inK_i64, inK_u64, inK_u32, inK_u8, inK_i32, max_i64, max_u64, IntKind.bits, Int.reduceToNat, Int.reduceAdd, Nat.reducePow, Int.reducePow, and_true, true_and, and_self] <;> omega)) ?_
    intro A w hF hH
    refine list_act hF rfl ?_
    refine op_call hF rfl rfl rfl rfl rfl rfl isF83 (put_calls κ _ _ bc bo b 0 m m _ i _ c hlt (by simp; omega) (by omega) hc0 (by omega) hH) ?_
    rintro e w ⟨rfl, hH⟩
    refine ⟨_, rfl, fun A hF => ?_⟩
    refine wpList_nil ?_
    refine wp_region_lit ?_
    rw [← hpre, set_pre] at hH
    refine ev0 [0, 0] tab hF hH rfl (by first | exact trivial | (simp only [All, inK_i64, inK_u64, inK_u32, inK_u8, inK_i32, max_i64, max_u64, IntKind.bits, Int.reduceToNat, Int.reduceAdd, Nat.reducePow, Int.reducePow, and_true, true_and, and_self] <;> omega)) ?_
    intro A w hF hH
    refine wpList_nil ?_
    refine ⟨i + 1, ⟨by omega, pre ++ [(hd (da.drop i) + hd (db.drop i) + c) % 4294967296], (hd (da.drop i) + hd (db.drop i) + c) / 4294967296, by simp [hpre], by omega, by omega, ?_, Fr.to hF ⟨rfl, rfl, rfl, rfl, rfl, rfl, trivial⟩, ?_⟩, by omega⟩
    · rw [← hadd, show m - (i + 1) = k from by omega, List.append_assoc, ← List.tail_drop, ← List.tail_drop]; rfl
    · rw [show m - (i + 1) = k from by omega, ← hpre]; exact hH
  · skip
    refine ev0 [2] tab hF hH rfl (by first | exact trivial | (simp only [All, inK_i64, inK_u64, inK_u32, inK_u8, inK_i32, max_i64, max_u64, IntKind.bits, Int.reduceToNat, Int.reduceAdd, Nat.reducePow, Int.reducePow, and_true, true_and, and_self] <;> omega)) ?_
    intro A w hF hH
    refine wpList_nil ?_
    refine wp_seq ?_
    refine cond_f hF rfl rfl ?_
    refine wp_exit ?_
    repeat (first | refine then_exit ?_ | refine ng_exit ?_ | refine blk_exit ?_ | refine blk_exit_ne rfl ?_)
    refine wp_seq ?_
    refine wp_region_lit ?_
    have him : m - i = 0 := by omega
    rw [him] at hadd hH
    simp only [addc, List.append_nil, List.replicate_zero] at hadd hH
    rw [hadd] at hH
    obtain ⟨κ', l, hH, hro⟩ := row_freeze (rot3 hH)
    have hH := hH.tail.tail
    have hlen := addc_length m 0 da db
    have hrd : Rd κ' [] 1 u32 (.slice (some ⟨b, 0, none⟩) m m) (addc m 0 da db) := hro.rd hlen.symm (Nat.le_refl _) (fun j u hu => by rw [u32_map] at hu; simpa using hu)
    refine ev0 [0] tab hF hH rfl (by first | exact trivial | (simp only [All, inK_i64, inK_u64, inK_u32, inK_u8, inK_i32, max_i64, max_u64, IntKind.bits, Int.reduceToNat, Int.reduceAdd, Nat.reducePow, Int.reducePow, and_true, true_and, and_self] <;> omega)) ?_
    intro A w hF hH
    refine list_act hF rfl ?_
    refine op_call hF rfl rfl rfl rfl rfl rfl isF75 (cut_calls κ' _ _ hrd (addc_limbs m 0 da db) (by rw [hlen]; omega) _ _ hH) ?_
    rintro e w ⟨v, ds, rfl, hn, hH⟩
    refine ⟨_, rfl, fun A hF => ?_⟩
    refine ev0 [0] tab hF hH rfl (by first | exact trivial | (simp only [All, inK_i64, inK_u64, inK_u32, inK_u8, inK_i32, max_i64, max_u64, IntKind.bits, Int.reduceToNat, Int.reduceAdd, Nat.reducePow, Int.reducePow, and_true, true_and, and_self] <;> omega)) ?_
    intro A w hF hH
    refine wpList_nil ?_
    refine wp_ret ?_
    repeat (first | refine then_ret ?_ | refine blk_ret ?_ | refine ng_ret ?_)
    refine ret (M := []) (hs := []) tab hF hH rfl (by first | exact trivial | (simp only [All, inK_i64, inK_u64, inK_u32, inK_u8, inK_i32, max_i64, max_u64, IntKind.bits, Int.reduceToNat, Int.reduceAdd, Nat.reducePow, Int.reducePow, and_true, true_and, and_self] <;> omega)) ?_
    have hv := addc_val m 0 da db ha.limbs hb.limbs (by omega) (by omega) (by omega) (by omega)
    rw [hv, ha.val, hb.val, Int.add_zero] at hn
    exact ⟨κ', v, ds, l, rfl, hn, hH⟩
end Go.Proofs.Try
