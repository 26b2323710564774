/- The document's supertask: what is missed, a grant. -/
import Derived.Test.YtfapcagleghlaaaZa
set_option linter.all false
namespace Go.Proofs.Try
open Go Go.Sep

theorem srv_div {a0 : Int} {p : Prt} (h : PInv a0 p) : srv p / p.E = p.idx := by
  obtain ⟨p1, p2, p3, p4, p5, p6, p7, p8⟩ := h
  unfold srv
  rw [Int.add_comm, Int.add_mul_ediv_right _ _ (by omega), Int.ediv_eq_zero_of_lt (by omega) (by omega)]; omega
theorem rel_iff {a0 at_ : Int} {p : Prt} (h : PInv a0 p) : (at_ - a0) / p.P + 1 ≤ p.idx ↔ at_ < p.rel := by
  obtain ⟨p1, p2, p3, p4, p5, p6, p7, p8⟩ := h
  have e : (at_ - a0) / p.P < p.idx ↔ at_ - a0 < p.idx * p.P := Int.ediv_lt_iff_lt_mul (by omega)
  rw [p5, Int.mul_comm]
  omega
theorem srv_range {a0 : Int} {p : Prt} (h : PInv a0 p) (hf : PFit p) : 0 ≤ srv p ∧ srv p ≤ 28147497671065600 := by
  obtain ⟨p1, p2, p3, p4, p5, p6, p7, p8⟩ := h
  have h1 := hf.idx1
  have m1 : 0 ≤ p.idx * p.E := Int.mul_nonneg p4 (by omega)
  have m2 : p.idx * p.E ≤ 1125899906842624 * 24 := Int.mul_le_mul h1 (by omega) (by omega) (by omega)
  unfold srv
  omega
theorem mis_eq {a0 at_ : Int} {p : Prt} (h : PInv a0 p) (ha : a0 ≤ at_) : misP at_ p = if srv p < (at_ - a0) / p.P * p.E then (at_ - a0) / p.P * p.E - srv p else 0 := by
  obtain ⟨p1, p2, p3, p4, p5, p6, p7, p8⟩ := h
  have e : (at_ - a0) / p.P = p.idx + 1 + (at_ - p.dl) / p.P := by
    have : at_ - a0 = (at_ - p.dl) + (p.idx + 1) * p.P := by rw [p6, Int.add_mul, Int.mul_comm p.P]; omega
    rw [this, Int.add_mul_ediv_right _ _ (by omega)]; omega
  unfold misP
  by_cases hd : p.dl ≤ at_
  · have k0 : 0 ≤ (at_ - p.dl) / p.P := Int.ediv_nonneg (by omega) (by omega)
    have k1 : 0 ≤ (at_ - p.dl) / p.P * p.E := Int.mul_nonneg k0 (by omega)
    have k2 : (at_ - a0) / p.P * p.E = p.idx * p.E + p.E + (at_ - p.dl) / p.P * p.E := by rw [e, Int.add_mul, Int.add_mul]; omega
    rw [if_pos hd, k2]
    unfold srv
    rw [if_pos (by omega)]
    omega
  · have k0 : (at_ - p.dl) / p.P < 0 := Int.ediv_neg_of_neg_of_pos (by omega) (by omega)
    have k1 : (at_ - a0) / p.P ≤ p.idx := by omega
    have k2 : (at_ - a0) / p.P * p.E ≤ p.idx * p.E := Int.mul_le_mul_of_nonneg_right k1 (by omega)
    rw [if_neg hd]
    unfold srv
    rw [if_neg (by omega)]
section
variable {κ : K} {w : World} {C : List HP}
set_option maxRecDepth 20000 in
theorem rmissed_calls {r : Nat} {v : Value} {a0 : Int} {S : Sup} (at_ : Int) (hv : Rd κ [] 2 wenc v (bs S)) (hp : ∀ p ∈ S.ps, PInv a0 p) (hpf : ∀ p ∈ S.ps, PFit p) (h8 : S.ps.length ≤ 8) (h0 : 0 ≤ a0) (hl : a0 ≤ S.last) (hH : Hp κ w (row r (rcells v a0 S) 56 :: C)) :
    Calls Try.prog 24 #[.pointer (some ⟨r, 0, none⟩), .int .i64 at_] w (fun e w' => e = .returned (.int .i64 (missedF S at_)) ∧ Hp κ w' (row r (rcells v a0 S) 56 :: C)) := by
  have hbl := bs_len S
  have hv0 := hv
  obtain ⟨A0, cap, rfl, hcap⟩ := hv.form
  refine enter (args := [.pointer (some ⟨r, 0, none⟩), .int .i64 at_]) Try.func24 rfl rfl ?_
  intro A hF
  refine wp_seq ?_
  refine wp_region_lit ?_
  refine ev0 [0] tab hF hH rfl (by first | exact trivial | (simp only [All, inK_i64, inK_u64, inK_u32, inK_u8, inK_i32, max_i64, max_u64, IntKind.bits, Int.reduceToNat, Int.reduceAdd, Nat.reducePow, Int.reducePow, and_true, true_and, and_self] <;> omega)) ?_
  intro A w hF hH
  refine wpList_nil ?_
  refine wp_seq ?_
  refine wp_region_lit ?_
  refine ev0 [0, 0] tab hF hH rfl (by first | exact trivial | (simp only [All, inK_i64, inK_u64, inK_u32, inK_u8, inK_i32, max_i64, max_u64, IntKind.bits, Int.reduceToNat, Int.reduceAdd, Nat.reducePow, Int.reducePow, and_true, true_and, and_self] <;> omega)) ?_
  intro A w hF hH
  refine list_act hF rfl ?_
  refine op_call hF rfl rfl rfl rfl rfl rfl isF46 (rslot_calls at_ hH) ?_
  rintro e w ⟨rfl, hH⟩
  refine ⟨_, rfl, fun A hF => ?_⟩
  refine ev0 [0] tab hF hH rfl (by first | exact trivial | (simp only [All, inK_i64, inK_u64, inK_u32, inK_u8, inK_i32, max_i64, max_u64, IntKind.bits, Int.reduceToNat, Int.reduceAdd, Nat.reducePow, Int.reducePow, and_true, true_and, and_self] <;> omega)) ?_
  intro A w hF hH
  refine wpList_nil ?_
  refine wp_seq ?_
  refine wp_region_lit ?_
  refine ev0 [0] tab hF hH rfl (by first | exact trivial | (simp only [All, inK_i64, inK_u64, inK_u32, inK_u8, inK_i32, max_i64, max_u64, IntKind.bits, Int.reduceToNat, Int.reduceAdd, Nat.reducePow, Int.reducePow, and_true, true_and, and_self] <;> omega)) ?_
  intro A w hF hH
  refine wpList_nil ?_
  refine wp_seq ?_
  refine wp_seq ?_
  refine wp_region_lit ?_
  refine ev0 [0] tab hF hH rfl (by first | exact trivial | (simp only [All, inK_i64, inK_u64, inK_u32, inK_u8, inK_i32, max_i64, max_u64, IntKind.bits, Int.reduceToNat, Int.reduceAdd, Nat.reducePow, Int.reducePow, and_true, true_and, and_self] <;> omega)) ?_
  intro A w hF hH
  refine wpList_nil ?_
  refine wp_block ?_
  by_cases hs : S.last ≤ at_ ∧ at_ ≤ 1099511627776
  · rw [show decide (S.last ≤ at_ ∧ at_ ≤ 1099511627776) = true from by simpa using hs] at hF
    have hsl := hs.2
    refine loop_j (fun (i : Nat) A w => i ≤ S.ps.length ∧ ∃ q, 0 ≤ q ∧ q + misL at_ (S.ps.drop i) = misL at_ S.ps ∧ Fr 67 A [(7, .int .i64 i), (6, .int .i64 q), (5, .bool true), (0, .pointer (some ⟨r, 0, none⟩)), (1, .int .i64 at_)] ∧ Hp κ w (row r (rcells (.slice A0 (bs S).length cap) a0 S) 56 :: C)) (fun i => S.ps.length - i) 0 ⟨Nat.zero_le _, 0, by omega, by simp, Fr.to hF ⟨rfl, rfl, rfl, rfl, rfl, trivial⟩, hH⟩ ?_
    rintro i A w ⟨hi, q, hq0, hq, hF, hH⟩
    refine wp_seq ?_
    refine wp_seq ?_
    refine wp_region_lit ?_
    by_cases hlt : i < S.ps.length
    · refine evF [] [row r (rcells (.slice A0 (bs S).length cap) a0 S) 56] (LFok.cons (At.own (off := 0) (vs := [.slice A0 (bs S).length cap]) 0 rfl (own1 rfl)) (LFok.nil _ _)) [0, 0, 0, 0, 1, 0, 1, 0, 0, 0] tab hF hH rfl (by first | exact trivial | (simp only [All, inK_i64, inK_u64, inK_u32, inK_u8, inK_i32, max_i64, max_u64, IntKind.bits, Int.reduceToNat, Int.reduceAdd, Nat.reducePow, Int.reducePow, and_true, true_and, and_self] <;> omega)) ?_
      intro A w hF hH
      refine wpList_nil ?_
      refine cond_t hF rfl rfl ?_
      refine wp_skip ?_
      refine wp_seq ?_
      refine wp_block ?_
      refine wp_seq ?_
      obtain ⟨b0, off0, rfl⟩ := hv.addr (by omega)
      have hat := hv.at_ (fun _ _ => rfl) i (by omega)
      rw [bs_get] at hat
      have hpi := hp S.ps[i] (List.getElem_mem hlt)
      have hsr := srv_range hpi (hpf S.ps[i] (List.getElem_mem hlt))
      have hdn := rc_done (v := .slice (some ⟨b0, off0, none⟩) (bs S).length cap) (a0 := a0) hlt h8
      have hme := mis_eq (at_ := at_) hpi (by omega)
      have hall := misL_range hsl S.ps hpf
      have hrest := misL_range hsl (S.ps.drop (i + 1)) (fun p h => hpf p (List.mem_of_mem_drop h))
      have hmi := misP_range (hpf S.ps[i] (List.getElem_mem hlt)) hsl
      rw [List.drop_eq_getElem_cons hlt] at hq
      simp only [misL] at hq
      obtain ⟨p1, p2, p3, p4, p5, p6, p7, p8⟩ := hpi
      generalize srv S.ps[i] = d at *
      generalize S.ps[i] = p at *
      have a1 : 0 ≤ (at_ - a0) / p.P := Int.ediv_nonneg (by omega) (by omega)
      have a2 : (at_ - a0) / p.P ≤ at_ - a0 := Int.ediv_le_self _ (by omega)
      have a3 : (at_ - a0) / p.P * p.E ≤ 1099511627776 * 24 := Int.mul_le_mul (by omega) (by omega) (by omega) (by omega)
      have a4 : 0 ≤ (at_ - a0) / p.P * p.E := Int.mul_nonneg a1 (by omega)
      have hat0 : ∀ κ' w, κ.le κ' → Hp κ' w [row r (rcells (.slice (some ⟨b0, off0, none⟩) (bs S).length cap) a0 S) 56] → At w ⟨b0, off0 + i * 2, [.int .i64 p.E]⟩ := fun κ' w l hH => by
        obtain ⟨cs, t, fr, h1, h2⟩ := hat κ' w l hH.nil
        refine ⟨cs, t, fr, h1, fun j u hu => ?_⟩
        cases j with
        | zero => exact h2 0 u hu
        | succ j => simp at hu
      have hat1 : ∀ κ' w, κ.le κ' → Hp κ' w [row r (rcells (.slice (some ⟨b0, off0, none⟩) (bs S).length cap) a0 S) 56] → At w ⟨b0, off0 + i * 2 + 1, [.int .i64 p.P]⟩ := fun κ' w l hH => by
        obtain ⟨cs, t, fr, h1, h2⟩ := hat κ' w l hH.nil
        refine ⟨cs, t, fr, h1, fun j u hu => ?_⟩
        cases j with
        | zero => exact h2 1 u hu
        | succ j => simp at hu
      refine dr_all (by kernel_rfl) [] [row r (rcells (.slice (some ⟨b0, off0, none⟩) (bs S).length cap) a0 S) 56] [(0, 0), (1, 0), (2, 0), (3, 0), (4, 1), (5, 0), (6, 0), (7, 0), (8, 0), (9, 3), (10, 0), (11, 0), (12, 0), (13, 7), (14, 0), (15, 0), (16, 0), (17, 0), (18, 3), (19, 0), (20, 0), (21, 0), (22, 5), (23, 0), (24, 0)] tab (LFok.cons (At.own (off := 1) (vs := [.int .i64 a0]) 0 rfl (own1 rfl)) (LFok.cons (At.own (off := 0) (vs := [.slice (some ⟨b0, off0, none⟩) (bs S).length cap]) 0 rfl (own1 rfl)) (LFok.cons hat0 (LFok.cons hat1 (LFok.nil _ _))))) (by kernel_rfl) rfl hF hH (by kernel_rfl) (by kernel_rfl) rfl (by first | exact trivial | (simp only [All, inK_i64, inK_u64, inK_u32, inK_u8, inK_i32, max_i64, max_u64, IntKind.bits, Int.reduceToNat, Int.reduceAdd, Nat.reducePow, Int.reducePow, and_true, true_and, and_self] <;> omega)) ?_
      intro A w hF hH
      refine wp_seq ?_
      refine wp_region_lit ?_
      by_cases hd : d < (at_ - a0) / p.P * p.E
      · rw [if_pos hd] at hme
        refine evF [] [row r (rcells (.slice (some ⟨b0, off0, none⟩) (bs S).length cap) a0 S) 56] (LFok.cons (At.own (off := 3 + i) (vs := [.int .i64 d]) 0 rfl (own1 hdn)) (LFok.nil _ _)) [0, 0, 0, 0, 0, 0, 1, 1] tab hF hH rfl (by first | exact trivial | (simp only [All, inK_i64, inK_u64, inK_u32, inK_u8, inK_i32, max_i64, max_u64, IntKind.bits, Int.reduceToNat, Int.reduceAdd, Nat.reducePow, Int.reducePow, and_true, true_and, and_self] <;> omega)) ?_
        intro A w hF hH
        refine wpList_nil ?_
        refine cond_t hF rfl rfl ?_
        refine wp_region_lit ?_
        refine evF [] [row r (rcells (.slice (some ⟨b0, off0, none⟩) (bs S).length cap) a0 S) 56] (LFok.cons (At.own (off := 3 + i) (vs := [.int .i64 d]) 0 rfl (own1 hdn)) (LFok.nil _ _)) [0, 0, 0, 0, 0, 0, 0, 0, 1, 0, 0] tab hF hH rfl (by first | exact trivial | (simp only [All, inK_i64, inK_u64, inK_u32, inK_u8, inK_i32, max_i64, max_u64, IntKind.bits, Int.reduceToNat, Int.reduceAdd, Nat.reducePow, Int.reducePow, and_true, true_and, and_self] <;> omega)) ?_
        intro A w hF hH
        refine wpList_nil ?_
        refine wp_region_lit ?_
        refine ev0 [0, 0, 0] tab hF hH rfl (by first | exact trivial | (simp only [All, inK_i64, inK_u64, inK_u32, inK_u8, inK_i32, max_i64, max_u64, IntKind.bits, Int.reduceToNat, Int.reduceAdd, Nat.reducePow, Int.reducePow, and_true, true_and, and_self] <;> omega)) ?_
        intro A w hF hH
        refine wpList_nil ?_
        exact ⟨i + 1, ⟨by omega, q + (at_ - a0) / p.P * p.E - d, by omega, by omega, Fr.to hF ⟨rfl, rfl, rfl, rfl, rfl, trivial⟩, hH⟩, by omega⟩
      · skip
        rw [if_neg hd] at hme
        refine evF [] [row r (rcells (.slice (some ⟨b0, off0, none⟩) (bs S).length cap) a0 S) 56] (LFok.cons (At.own (off := 3 + i) (vs := [.int .i64 d]) 0 rfl (own1 hdn)) (LFok.nil _ _)) [0, 0, 0, 0, 0, 0, 1, 2] tab hF hH rfl (by first | exact trivial | (simp only [All, inK_i64, inK_u64, inK_u32, inK_u8, inK_i32, max_i64, max_u64, IntKind.bits, Int.reduceToNat, Int.reduceAdd, Nat.reducePow, Int.reducePow, and_true, true_and, and_self] <;> omega)) ?_
        intro A w hF hH
        refine wpList_nil ?_
        refine cond_f hF rfl rfl ?_
        refine wp_skip ?_
        refine wp_region_lit ?_
        refine ev0 [0, 0, 0] tab hF hH rfl (by first | exact trivial | (simp only [All, inK_i64, inK_u64, inK_u32, inK_u8, inK_i32, max_i64, max_u64, IntKind.bits, Int.reduceToNat, Int.reduceAdd, Nat.reducePow, Int.reducePow, and_true, true_and, and_self] <;> omega)) ?_
        intro A w hF hH
        refine wpList_nil ?_
        exact ⟨i + 1, ⟨by omega, q, by omega, by omega, Fr.to hF ⟨rfl, rfl, rfl, rfl, rfl, trivial⟩, hH⟩, by omega⟩
    · skip
      refine evF [] [row r (rcells (.slice A0 (bs S).length cap) a0 S) 56] (LFok.cons (At.own (off := 0) (vs := [.slice A0 (bs S).length cap]) 0 rfl (own1 rfl)) (LFok.nil _ _)) [0, 0, 0, 0, 1, 0, 2, 0, 0, 0] tab hF hH rfl (by first | exact trivial | (simp only [All, inK_i64, inK_u64, inK_u32, inK_u8, inK_i32, max_i64, max_u64, IntKind.bits, Int.reduceToNat, Int.reduceAdd, Nat.reducePow, Int.reducePow, and_true, true_and, and_self] <;> omega)) ?_
      intro A w hF hH
      refine wpList_nil ?_
      refine cond_f hF rfl rfl ?_
      refine wp_exit ?_
      repeat (first | refine then_exit ?_ | refine ng_exit ?_ | refine blk_exit ?_ | refine blk_exit_ne rfl ?_)
      refine wp_seq ?_
      refine wp_region_lit ?_
      rw [List.drop_eq_nil_of_le (by omega)] at hq
      simp only [misL, Int.add_zero] at hq
      refine ev0 [0, 0] tab hF hH rfl (by first | exact trivial | (simp only [All, inK_i64, inK_u64, inK_u32, inK_u8, inK_i32, max_i64, max_u64, IntKind.bits, Int.reduceToNat, Int.reduceAdd, Nat.reducePow, Int.reducePow, and_true, true_and, and_self] <;> omega)) ?_
      intro A w hF hH
      refine wpList_nil ?_
      refine wp_ret ?_
      repeat (first | refine then_ret ?_ | refine blk_ret ?_ | refine ng_ret ?_)
      refine ret (M := []) (hs := []) tab hF hH rfl (by first | exact trivial | (simp only [All, inK_i64, inK_u64, inK_u32, inK_u8, inK_i32, max_i64, max_u64, IntKind.bits, Int.reduceToNat, Int.reduceAdd, Nat.reducePow, Int.reducePow, and_true, true_and, and_self] <;> omega)) ?_
      exact ⟨by rw [show missedF S at_ = q from by rw [missedF, if_pos hs, hq]]; rfl, hH⟩
  · skip
    rw [show decide (S.last ≤ at_ ∧ at_ ≤ 1099511627776) = false from by simpa using hs] at hF
    refine loop_j (fun (_ : Unit) A w => Fr 67 A [(7, .int .i64 0), (6, .int .i64 0), (5, .bool false), (0, .pointer (some ⟨r, 0, none⟩)), (1, .int .i64 at_)] ∧ Hp κ w (row r (rcells (.slice A0 (bs S).length cap) a0 S) 56 :: C)) (fun _ => 0) () ⟨Fr.to hF ⟨rfl, rfl, rfl, rfl, rfl, trivial⟩, hH⟩ ?_
    rintro _ A w ⟨hF, hH⟩
    refine wp_seq ?_
    refine wp_seq ?_
    refine wp_region_lit ?_
    have hm0 : missedF S at_ = 0 := by rw [missedF, if_neg hs]
    by_cases hlt : 0 < (bs S).length
    · refine evF [] [row r (rcells (.slice A0 (bs S).length cap) a0 S) 56] (LFok.cons (At.own (off := 0) (vs := [.slice A0 (bs S).length cap]) 0 rfl (own1 rfl)) (LFok.nil _ _)) [0, 0, 0, 0, 1, 0, 1, 0, 0, 0] tab hF hH rfl (by first | exact trivial | (simp only [All, inK_i64, inK_u64, inK_u32, inK_u8, inK_i32, max_i64, max_u64, IntKind.bits, Int.reduceToNat, Int.reduceAdd, Nat.reducePow, Int.reducePow, and_true, true_and, and_self] <;> omega)) ?_
      intro A w hF hH
      refine wpList_nil ?_
      refine cond_f hF rfl rfl ?_
      refine wp_exit ?_
      repeat (first | refine then_exit ?_ | refine ng_exit ?_ | refine blk_exit ?_ | refine blk_exit_ne rfl ?_)
      refine wp_seq ?_
      refine wp_region_lit ?_
      refine ev0 [0, 0] tab hF hH rfl (by first | exact trivial | (simp only [All, inK_i64, inK_u64, inK_u32, inK_u8, inK_i32, max_i64, max_u64, IntKind.bits, Int.reduceToNat, Int.reduceAdd, Nat.reducePow, Int.reducePow, and_true, true_and, and_self] <;> omega)) ?_
      intro A w hF hH
      refine wpList_nil ?_
      refine wp_ret ?_
      repeat (first | refine then_ret ?_ | refine blk_ret ?_ | refine ng_ret ?_)
      refine ret (M := []) (hs := []) tab hF hH rfl (by first | exact trivial | (simp only [All, inK_i64, inK_u64, inK_u32, inK_u8, inK_i32, max_i64, max_u64, IntKind.bits, Int.reduceToNat, Int.reduceAdd, Nat.reducePow, Int.reducePow, and_true, true_and, and_self] <;> omega)) ?_
      exact ⟨by rw [hm0]; rfl, hH⟩
    · skip
      refine evF [] [row r (rcells (.slice A0 (bs S).length cap) a0 S) 56] (LFok.cons (At.own (off := 0) (vs := [.slice A0 (bs S).length cap]) 0 rfl (own1 rfl)) (LFok.nil _ _)) [0, 0, 0, 0, 1, 0, 2, 0, 0, 0] tab hF hH rfl (by first | exact trivial | (simp only [All, inK_i64, inK_u64, inK_u32, inK_u8, inK_i32, max_i64, max_u64, IntKind.bits, Int.reduceToNat, Int.reduceAdd, Nat.reducePow, Int.reducePow, and_true, true_and, and_self] <;> omega)) ?_
      intro A w hF hH
      refine wpList_nil ?_
      refine cond_f hF rfl rfl ?_
      refine wp_exit ?_
      repeat (first | refine then_exit ?_ | refine ng_exit ?_ | refine blk_exit ?_ | refine blk_exit_ne rfl ?_)
      refine wp_seq ?_
      refine wp_region_lit ?_
      refine ev0 [0, 0] tab hF hH rfl (by first | exact trivial | (simp only [All, inK_i64, inK_u64, inK_u32, inK_u8, inK_i32, max_i64, max_u64, IntKind.bits, Int.reduceToNat, Int.reduceAdd, Nat.reducePow, Int.reducePow, and_true, true_and, and_self] <;> omega)) ?_
      intro A w hF hH
      refine wpList_nil ?_
      refine wp_ret ?_
      repeat (first | refine then_ret ?_ | refine blk_ret ?_ | refine ng_ret ?_)
      refine ret (M := []) (hs := []) tab hF hH rfl (by first | exact trivial | (simp only [All, inK_i64, inK_u64, inK_u32, inK_u8, inK_i32, max_i64, max_u64, IntKind.bits, Int.reduceToNat, Int.reduceAdd, Nat.reducePow, Int.reducePow, and_true, true_and, and_self] <;> omega)) ?_
      exact ⟨by rw [hm0]; rfl, hH⟩
end
end Go.Proofs.Try
