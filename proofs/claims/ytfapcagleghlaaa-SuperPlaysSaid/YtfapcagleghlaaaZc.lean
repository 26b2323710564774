/- The document's supertask: a grant. -/
import Derived.Test.YtfapcagleghlaaaZb
set_option linter.all false
namespace Go.Proofs.Try
open Go Go.Sep

def noJ : Prt := ⟨0, 0, -1, 0, 0, 0, 0⟩
/-- The best job so far. -/
def Best (at_ : Int) (ps : List Prt) (i : Nat) (J : Prt) : Prop := (bestN at_ ps i = -1 ∧ J = noJ) ∨ ∃ k, ∃ hk : k < ps.length, k < i ∧ bestN at_ ps i = k ∧ J = ps[k]
theorem best_step {a0 at_ : Int} {ps : List Prt} (hs : SInv a0 ps) {i : Nat} (hi : i < ps.length) {J : Prt} (h : Best at_ ps i J) :
    (at_ < ps[i].rel → Best at_ ps (i + 1) J) ∧ (¬ at_ < ps[i].rel → J.k < 0 → Best at_ ps (i + 1) ps[i]) ∧ (¬ at_ < ps[i].rel → ¬ J.k < 0 → ps[i].dl < J.dl → Best at_ ps (i + 1) ps[i]) ∧ (¬ at_ < ps[i].rel → ¬ J.k < 0 → ¬ ps[i].dl < J.dl → Best at_ ps (i + 1) J) := by
  have hun : bestN at_ ps (i + 1) = if at_ < (ps[i]).rel then bestN at_ ps i else
      match ps[(bestN at_ ps i).toNat]? with
      | some q => if 0 ≤ bestN at_ ps i ∧ ordF q ps[i] < 0 then bestN at_ ps i else i
      | none => i := by
    conv => lhs; unfold bestN
    rw [List.getElem?_eq_getElem hi]
    rfl
  rcases h with ⟨h1, rfl⟩ | ⟨k, hk, hki, h1, rfl⟩
  · have hb : ¬ at_ < ps[i].rel → Best at_ ps (i + 1) ps[i] := fun h => .inr ⟨i, hi, by omega, by
      rw [hun, if_neg h, h1]
      split
      · rw [if_neg (by omega)]
      · rfl, rfl⟩
    refine ⟨fun h => .inl ⟨by rw [hun, if_pos h, h1], rfl⟩, fun h _ => hb h, fun h _ _ => hb h, fun _ h => absurd (show noJ.k < 0 by decide) h⟩
  · have hkk := (hs k hk).1
    have hii := (hs i hi).1
    have hord := ordF_lss ps[k] ps[i]
    refine ⟨fun h => .inr ⟨k, hk, by omega, by rw [hun, if_pos h, h1], rfl⟩, fun _ h => by omega, fun h _ h2 => .inr ⟨i, hi, by omega, ?_, rfl⟩, fun h _ h2 => .inr ⟨k, hk, by omega, ?_, rfl⟩⟩
    · rw [hun, if_neg h, h1, Int.toNat_natCast, List.getElem?_eq_getElem hk]
      simp only
      rw [if_neg (fun h' => by have := hord.1 h'.2; omega)]
    · rw [hun, if_neg h, h1, Int.toNat_natCast, List.getElem?_eq_getElem hk]
      simp only
      rw [if_pos ⟨by omega, hord.2 (by omega)⟩]
theorem putL_one (l : List Value) (n : Nat) (v : Value) : putL l n [v] = l.set n v := by simp [putL, setL_eq]
section
variable {κ : K} {w : World} {C : List HP}
set_option maxHeartbeats 2000000 in
set_option maxRecDepth 20000 in
theorem rgrant_calls {r : Nat} {v : Value} {a0 : Int} {S : Sup} (at_ : Int) (hv : Rd κ [] 2 wenc v (bs S)) (hs : SInv a0 S.ps) (hpf : ∀ p ∈ S.ps, PFit p) (h8 : S.ps.length ≤ 8) (h0 : 0 ≤ a0) (hl : a0 ≤ S.last) (h1 : 0 ≤ S.served ∧ S.served ≤ 1125899906842624) (h2 : 0 ≤ S.idle ∧ S.idle ≤ 1125899906842624) (hH : Hp κ w (row r (rcells v a0 S) 56 :: C)) :
    Calls Try.prog 21 #[.pointer (some ⟨r, 0, none⟩), .int .i64 at_] w (fun e w' => e = .returned (gval (grantF S at_).2) ∧ Hp κ w' (row r (rcells v a0 (grantF S at_).1) 56 :: C)) := by
  have hbl := bs_len S
  obtain ⟨A0, cap, rfl, hcap⟩ := hv.form
  refine enter (args := [.pointer (some ⟨r, 0, none⟩), .int .i64 at_]) Try.func21 rfl rfl ?_
  intro A hF
  refine wp_seq ?_
  refine wp_region_lit ?_
  refine list_act hF rfl ?_
  refine op_alloc hF tab rfl rfl rfl rfl rfl hH ?_
  intro b4 A w hF hH
  refine ev0 [0] tab hF hH rfl (by first | exact trivial | (simp only [All, inK_i64, inK_u64, inK_u32, inK_u8, inK_i32, max_i64, max_u64, IntKind.bits, Int.reduceToNat, Int.reduceAdd, Nat.reducePow, Int.reducePow, and_true, true_and, and_self] <;> omega)) ?_
  intro A w hF hH
  refine wpList_nil ?_
  refine wp_seq ?_
  refine wp_region_lit ?_
  have hH := hH.swap
  refine ev0 [0, 0] tab hF hH rfl (by first | exact trivial | (simp only [All, inK_i64, inK_u64, inK_u32, inK_u8, inK_i32, max_i64, max_u64, IntKind.bits, Int.reduceToNat, Int.reduceAdd, Nat.reducePow, Int.reducePow, and_true, true_and, and_self] <;> omega)) ?_
  intro A w hF hH
  refine list_act hF rfl ?_
  refine op_call hF rfl rfl rfl rfl rfl rfl isF46 (rslot_calls at_ hH) ?_
  rintro e w ⟨rfl, hH⟩
  refine ⟨_, rfl, fun A hF => ?_⟩
  refine ev0 [0] tab hF hH rfl (by first | exact trivial | (simp only [All, inK_i64, inK_u64, inK_u32, inK_u8, inK_i32, max_i64, max_u64, IntKind.bits, Int.reduceToNat, Int.reduceAdd, Nat.reducePow, Int.reducePow, and_true, true_and, and_self] <;> omega)) ?_
  intro A w hF hH
  refine wpList_nil ?_
  refine wp_seq ?_
  refine wp_seq ?_
  refine wp_region_lit ?_
  by_cases hsl : S.last ≤ at_ ∧ at_ ≤ 1099511627776
  · rw [show decide (S.last ≤ at_ ∧ at_ ≤ 1099511627776) = true from by simpa using hsl] at hF
    refine ev0 [0, 0] tab hF hH rfl (by first | exact trivial | (simp only [All, inK_i64, inK_u64, inK_u32, inK_u8, inK_i32, max_i64, max_u64, IntKind.bits, Int.reduceToNat, Int.reduceAdd, Nat.reducePow, Int.reducePow, and_true, true_and, and_self] <;> omega)) ?_
    intro A w hF hH
    refine wpList_nil ?_
    refine cond_f hF rfl rfl ?_
    refine wp_skip ?_
    refine wp_seq ?_
    refine wp_region_lit ?_
    refine ev0 [0, 0, 0, 0] tab hF hH rfl (by first | exact trivial | (simp only [All, inK_i64, inK_u64, inK_u32, inK_u8, inK_i32, max_i64, max_u64, IntKind.bits, Int.reduceToNat, Int.reduceAdd, Nat.reducePow, Int.reducePow, and_true, true_and, and_self] <;> omega)) ?_
    intro A w hF hH
    refine list_act hF rfl ?_
    refine op_storeS hF tab rfl rfl rfl rfl rfl rfl (by rw [rc_len]; decide) hH ?_
    intro A w hF hH
    refine wpList_nil ?_
    refine wp_seq ?_
    refine wp_region_lit ?_
    have hH : Hp κ _ (row r (rcells (.slice A0 (bs S).length cap) a0 ⟨S.ps, at_, S.served, S.idle⟩) 56 :: row b4 (jenc zeroJ) 40 :: C) := hH
    obtain ⟨S1, hS1⟩ : ∃ S1 : Sup, S1 = ⟨S.ps, at_, S.served, S.idle⟩ := ⟨_, rfl⟩
    rw [← hS1] at hH
    have e1 : S1.ps = S.ps := by rw [hS1]
    have e2 : bs S = bs S1 := by simp only [bs, e1]
    have e3 : S1.served = S.served := by rw [hS1]
    have e4 : S1.idle = S.idle := by rw [hS1]
    have e5 : S1.last = at_ := by rw [hS1]
    rw [e2] at hH hv hcap hbl
    rw [← e1] at hs hpf h8 hbl
    refine ev0 [0] tab hF hH rfl (by first | exact trivial | (simp only [All, inK_i64, inK_u64, inK_u32, inK_u8, inK_i32, max_i64, max_u64, IntKind.bits, Int.reduceToNat, Int.reduceAdd, Nat.reducePow, Int.reducePow, and_true, true_and, and_self] <;> omega)) ?_
    intro A w hF hH
    refine list_act hF rfl ?_
    refine op_alloc hF tab rfl rfl rfl rfl rfl hH ?_
    intro b7 A w hF hH
    refine evM [⟨b7, jenc zeroJ, 40⟩] [0] tab hF hH rfl (by first | exact trivial | (simp only [All, inK_i64, inK_u64, inK_u32, inK_u8, inK_i32, max_i64, max_u64, IntKind.bits, Int.reduceToNat, Int.reduceAdd, Nat.reducePow, Int.reducePow, and_true, true_and, and_self] <;> omega)) ?_
    intro A w hF hH
    refine wpList_nil ?_
    refine wp_seq ?_
    refine wp_seq ?_
    refine wp_region_lit ?_
    have hH : Hp κ _ (row b7 (jenc noJ) 40 :: row r (rcells (.slice A0 (bs S1).length cap) a0 S1) 56 :: row b4 (jenc zeroJ) 40 :: C) := hH
    refine ev0 [0] tab hF hH rfl (by first | exact trivial | (simp only [All, inK_i64, inK_u64, inK_u32, inK_u8, inK_i32, max_i64, max_u64, IntKind.bits, Int.reduceToNat, Int.reduceAdd, Nat.reducePow, Int.reducePow, and_true, true_and, and_self] <;> omega)) ?_
    intro A w hF hH
    refine wpList_nil ?_
    refine wp_block ?_
    refine loop_j (fun (i : Nat) A w => i ≤ S1.ps.length ∧ ∃ J : Prt, Best at_ S1.ps i J ∧ Fr 101 A [(8, .int .i64 i), (7, .pointer (some ⟨b7, 0, none⟩)), (0, .pointer (some ⟨r, 0, none⟩)), (1, .int .i64 at_), (4, .pointer (some ⟨b4, 0, none⟩))] ∧ Hp κ w (row b7 (jenc J) 40 :: row r (rcells (.slice A0 (bs S1).length cap) a0 S1) 56 :: row b4 (jenc zeroJ) 40 :: C)) (fun i => S1.ps.length - i) 0 ⟨Nat.zero_le _, noJ, .inl ⟨rfl, rfl⟩, Fr.to hF ⟨rfl, rfl, rfl, rfl, rfl, trivial⟩, hH⟩ ?_
    rintro i A w ⟨hi, J, hbest, hF, hH⟩
    refine wp_seq ?_
    refine wp_seq ?_
    refine wp_region_lit ?_
    have hH := hH.swap
    by_cases hlt : i < S1.ps.length
    · refine evF [] [row r (rcells (.slice A0 (bs S1).length cap) a0 S1) 56] (LFok.cons (At.own (off := 0) (vs := [.slice A0 (bs S1).length cap]) 0 rfl (own1 rfl)) (LFok.nil _ _)) [0, 0, 0, 0, 1, 0, 1] tab hF hH rfl (by first | exact trivial | (simp only [All, inK_i64, inK_u64, inK_u32, inK_u8, inK_i32, max_i64, max_u64, IntKind.bits, Int.reduceToNat, Int.reduceAdd, Nat.reducePow, Int.reducePow, and_true, true_and, and_self] <;> omega)) ?_
      intro A w hF hH
      refine wpList_nil ?_
      refine cond_t hF rfl rfl ?_
      refine wp_skip ?_
      refine wp_seq ?_
      refine wp_block ?_
      refine wp_seq ?_
      have hstep := best_step hs hlt hbest
      obtain ⟨b0, off0, rfl⟩ := hv.addr (by omega)
      have hat := hv.at_ (fun _ _ => rfl) i (by omega)
      rw [bs_get] at hat
      have hpi := (hs i hlt).2
      have hki := (hs i hlt).1
      have hpfi := hpf S1.ps[i] (List.getElem_mem hlt)
      have hsr := srv_range hpi hpfi
      have hsd := srv_div hpi
      have hri := rel_iff (at_ := at_) hpi
      have hdn := rc_done (v := .slice (some ⟨b0, off0, none⟩) (bs S1).length cap) (a0 := a0) hlt h8
      have hat0 : ∀ κ' w, κ.le κ' → Hp κ' w [row r (rcells (.slice (some ⟨b0, off0, none⟩) (bs S1).length cap) a0 S1) 56] → At w ⟨b0, off0 + i * 2, [.int .i64 S1.ps[i].E]⟩ := fun κ' w l hH => by
        obtain ⟨cs, t, fr, h1, h2⟩ := hat κ' w l hH.nil
        refine ⟨cs, t, fr, h1, fun j u hu => ?_⟩
        cases j with
        | zero => exact h2 0 u hu
        | succ j => simp at hu
      have hE1 := hpi.E1
      refine dr_all (by kernel_rfl) [] [row r (rcells (.slice (some ⟨b0, off0, none⟩) (bs S1).length cap) a0 S1) 56] [(0, 0), (1, 0), (2, 0), (3, 0), (4, 0), (5, 1), (6, 0), (7, 0), (8, 0), (9, 3), (10, 0), (11, 0), (12, 0), (13, 5), (14, 0), (15, 0)] tab (LFok.cons (At.own (off := 3 + i) (vs := [.int .i64 (srv S1.ps[i])]) 0 rfl (own1 hdn)) (LFok.cons (At.own (off := 0) (vs := [.slice (some ⟨b0, off0, none⟩) (bs S1).length cap]) 0 rfl (own1 rfl)) (LFok.cons hat0 (LFok.nil _ _)))) (by kernel_rfl) rfl hF hH (by kernel_rfl) (by kernel_rfl) rfl (by first | exact trivial | (simp only [All, inK_i64, inK_u64, inK_u32, inK_u8, inK_i32, max_i64, max_u64, IntKind.bits, Int.reduceToNat, Int.reduceAdd, Nat.reducePow, Int.reducePow, and_true, true_and, and_self] <;> omega)) ?_
      intro A w hF hH
      refine wp_seq ?_
      refine wp_seq ?_
      refine wp_region_lit ?_
      simp only [hsd] at hF
      refine ev0 [0, 0, 0, 0] tab hF hH rfl (by first | exact trivial | (simp only [All, inK_i64, inK_u64, inK_u32, inK_u8, inK_i32, max_i64, max_u64, IntKind.bits, Int.reduceToNat, Int.reduceAdd, Nat.reducePow, Int.reducePow, and_true, true_and, and_self] <;> omega)) ?_
      intro A w hF hH
      refine list_act hF rfl ?_
      refine op_call hF rfl rfl rfl rfl rfl rfl isF47 (released_calls (at_ := at_) hlt hv hpi h0 (by omega) hsl.2 hH) ?_
      rintro e w ⟨rfl, hH⟩
      refine ⟨_, rfl, fun A hF => ?_⟩
      by_cases hrel : at_ < S1.ps[i].rel
      · have := hri.2 hrel
        refine ev0 [1] tab hF hH rfl (by first | exact trivial | (simp only [All, inK_i64, inK_u64, inK_u32, inK_u8, inK_i32, max_i64, max_u64, IntKind.bits, Int.reduceToNat, Int.reduceAdd, Nat.reducePow, Int.reducePow, and_true, true_and, and_self] <;> omega)) ?_
        intro A w hF hH
        refine wpList_nil ?_
        refine cond_t hF rfl rfl ?_
        refine wp_exit ?_
        repeat (first | refine then_exit ?_ | refine ng_exit ?_ | refine blk_exit ?_ | refine blk_exit_ne rfl ?_)
        refine wp_region_lit ?_
        refine ev0 [0, 0, 0] tab hF hH rfl (by first | exact trivial | (simp only [All, inK_i64, inK_u64, inK_u32, inK_u8, inK_i32, max_i64, max_u64, IntKind.bits, Int.reduceToNat, Int.reduceAdd, Nat.reducePow, Int.reducePow, and_true, true_and, and_self] <;> omega)) ?_
        intro A w hF hH
        refine wpList_nil ?_
        exact ⟨i + 1, ⟨by omega, J, hstep.1 hrel, Fr.to hF ⟨rfl, rfl, rfl, rfl, rfl, trivial⟩, hH.swap⟩, by omega⟩
      · skip
        have := fun h => hrel (hri.1 h)
        refine ev0 [2] tab hF hH rfl (by first | exact trivial | (simp only [All, inK_i64, inK_u64, inK_u32, inK_u8, inK_i32, max_i64, max_u64, IntKind.bits, Int.reduceToNat, Int.reduceAdd, Nat.reducePow, Int.reducePow, and_true, true_and, and_self] <;> omega)) ?_
        intro A w hF hH
        refine wpList_nil ?_
        refine cond_f hF rfl rfl ?_
        refine wp_skip ?_
        refine wp_seq ?_
        refine wp_region_lit ?_
        refine ev0 [0, 0, 0] tab hF hH rfl (by first | exact trivial | (simp only [All, inK_i64, inK_u64, inK_u32, inK_u8, inK_i32, max_i64, max_u64, IntKind.bits, Int.reduceToNat, Int.reduceAdd, Nat.reducePow, Int.reducePow, and_true, true_and, and_self] <;> omega)) ?_
        intro A w hF hH
        have hleft := hpi.leftE
        have hqd : (if srv S1.ps[i] - S1.ps[i].idx * S1.ps[i].E < 0 then 0 else srv S1.ps[i] - S1.ps[i].idx * S1.ps[i].E) = S1.ps[i].E - S1.ps[i].left := by
          rw [show srv S1.ps[i] = S1.ps[i].idx * S1.ps[i].E + (S1.ps[i].E - S1.ps[i].left) from rfl, if_neg (by omega)]; omega
        have hjob := job_calls (q := S1.ps[i]) hlt h8 hv hpi h0 hsr hpi rfl rfl hki hqd hpfi hH
        refine list_act hF rfl ?_
        refine op_call hF rfl rfl rfl rfl rfl rfl isF48 hjob ?_
        rintro e w ⟨rfl, hH⟩
        refine ⟨_, rfl, fun A hF => ?_⟩
        refine list_act hF rfl ?_
        refine op_alloc hF tab rfl rfl rfl rfl rfl hH ?_
        intro b10 A w hF hH
        refine evM [⟨b10, jenc zeroJ, 40⟩] [0] tab hF hH rfl (by first | exact trivial | (simp only [All, inK_i64, inK_u64, inK_u32, inK_u8, inK_i32, max_i64, max_u64, IntKind.bits, Int.reduceToNat, Int.reduceAdd, Nat.reducePow, Int.reducePow, and_true, true_and, and_self] <;> omega)) ?_
        intro A w hF hH
        refine wpList_nil ?_
        refine wp_seq ?_
        refine wp_region_lit ?_
        have hH : Hp κ _ (row b10 (jenc S1.ps[i]) 40 :: _) := hH
        have hH := (hH.focus 2 rfl).swap
        generalize hp : S1.ps[i] = p at *
        by_cases hJ : J.k < 0
        · refine evM [⟨b10, jenc p, 40⟩, ⟨b7, jenc J, 40⟩] [0, 2, 1, 0, 0, 0, 0, 0, 0, 0] tab hF hH rfl (by first | exact trivial | (simp only [All, inK_i64, inK_u64, inK_u32, inK_u8, inK_i32, max_i64, max_u64, IntKind.bits, Int.reduceToNat, Int.reduceAdd, Nat.reducePow, Int.reducePow, and_true, true_and, and_self] <;> omega)) ?_
          intro A w hF hH
          refine wpList_nil ?_
          refine cond_t hF rfl rfl ?_
          refine wp_region_lit ?_
          refine evM [⟨b10, jenc p, 40⟩, ⟨b7, jenc J, 40⟩] [0, 1] tab hF hH rfl (by first | exact trivial | (simp only [All, inK_i64, inK_u64, inK_u32, inK_u8, inK_i32, max_i64, max_u64, IntKind.bits, Int.reduceToNat, Int.reduceAdd, Nat.reducePow, Int.reducePow, and_true, true_and, and_self] <;> omega)) ?_
          intro A w hF hH
          refine wpList_nil ?_
          refine wp_region_lit ?_
          refine ev0 [0, 0, 0] tab hF hH rfl (by first | exact trivial | (simp only [All, inK_i64, inK_u64, inK_u32, inK_u8, inK_i32, max_i64, max_u64, IntKind.bits, Int.reduceToNat, Int.reduceAdd, Nat.reducePow, Int.reducePow, and_true, true_and, and_self] <;> omega)) ?_
          intro A w hF hH
          refine wpList_nil ?_
          exact ⟨i + 1, ⟨by omega, p, hstep.2.1 hrel hJ, Fr.to hF ⟨rfl, rfl, rfl, rfl, rfl, trivial⟩, hH.tail⟩, by omega⟩
        · by_cases hdl : p.dl < J.dl
          · skip
            refine evM [⟨b10, jenc p, 40⟩, ⟨b7, jenc J, 40⟩] [0, 2, 2, 0, 0, 0, 0, 2, 1, 0] tab hF hH rfl (by first | exact trivial | (simp only [All, inK_i64, inK_u64, inK_u32, inK_u8, inK_i32, max_i64, max_u64, IntKind.bits, Int.reduceToNat, Int.reduceAdd, Nat.reducePow, Int.reducePow, and_true, true_and, and_self] <;> omega)) ?_
            intro A w hF hH
            refine wpList_nil ?_
            refine cond_t hF rfl rfl ?_
            refine wp_region_lit ?_
            refine evM [⟨b10, jenc p, 40⟩, ⟨b7, jenc J, 40⟩] [0, 1] tab hF hH rfl (by first | exact trivial | (simp only [All, inK_i64, inK_u64, inK_u32, inK_u8, inK_i32, max_i64, max_u64, IntKind.bits, Int.reduceToNat, Int.reduceAdd, Nat.reducePow, Int.reducePow, and_true, true_and, and_self] <;> omega)) ?_
            intro A w hF hH
            refine wpList_nil ?_
            refine wp_region_lit ?_
            refine ev0 [0, 0, 0] tab hF hH rfl (by first | exact trivial | (simp only [All, inK_i64, inK_u64, inK_u32, inK_u8, inK_i32, max_i64, max_u64, IntKind.bits, Int.reduceToNat, Int.reduceAdd, Nat.reducePow, Int.reducePow, and_true, true_and, and_self] <;> omega)) ?_
            intro A w hF hH
            refine wpList_nil ?_
            exact ⟨i + 1, ⟨by omega, p, hstep.2.2.1 hrel hJ hdl, Fr.to hF ⟨rfl, rfl, rfl, rfl, rfl, trivial⟩, hH.tail⟩, by omega⟩
          · skip
            refine evM [⟨b10, jenc p, 40⟩, ⟨b7, jenc J, 40⟩] [0, 2, 2, 0, 0, 0, 0, 2, 2, 0] tab hF hH rfl (by first | exact trivial | (simp only [All, inK_i64, inK_u64, inK_u32, inK_u8, inK_i32, max_i64, max_u64, IntKind.bits, Int.reduceToNat, Int.reduceAdd, Nat.reducePow, Int.reducePow, and_true, true_and, and_self] <;> omega)) ?_
            intro A w hF hH
            refine wpList_nil ?_
            refine cond_f hF rfl rfl ?_
            refine wp_skip ?_
            refine wp_region_lit ?_
            refine ev0 [0, 0, 0] tab hF hH rfl (by first | exact trivial | (simp only [All, inK_i64, inK_u64, inK_u32, inK_u8, inK_i32, max_i64, max_u64, IntKind.bits, Int.reduceToNat, Int.reduceAdd, Nat.reducePow, Int.reducePow, and_true, true_and, and_self] <;> omega)) ?_
            intro A w hF hH
            refine wpList_nil ?_
            exact ⟨i + 1, ⟨by omega, J, hstep.2.2.2 hrel hJ hdl, Fr.to hF ⟨rfl, rfl, rfl, rfl, rfl, trivial⟩, hH.tail⟩, by omega⟩
    · skip
      refine evF [] [row r (rcells (.slice A0 (bs S1).length cap) a0 S1) 56] (LFok.cons (At.own (off := 0) (vs := [.slice A0 (bs S1).length cap]) 0 rfl (own1 rfl)) (LFok.nil _ _)) [0, 0, 0, 0, 1, 0, 2] tab hF hH rfl (by first | exact trivial | (simp only [All, inK_i64, inK_u64, inK_u32, inK_u8, inK_i32, max_i64, max_u64, IntKind.bits, Int.reduceToNat, Int.reduceAdd, Nat.reducePow, Int.reducePow, and_true, true_and, and_self] <;> omega)) ?_
      intro A w hF hH
      refine wpList_nil ?_
      refine cond_f hF rfl rfl ?_
      refine wp_exit ?_
      repeat (first | refine then_exit ?_ | refine ng_exit ?_ | refine blk_exit ?_ | refine blk_exit_ne rfl ?_)
      refine wp_seq ?_
      refine wp_seq ?_
      refine wp_region_lit ?_
      have ei : i = S1.ps.length := by omega
      subst ei
      have hH := hH.swap
      rcases hbest with ⟨hb, rfl⟩ | ⟨k, hk, _, hb, rfl⟩
      · have eg : grantF S at_ = (⟨S1.ps, S1.last, S1.served, S1.idle + 1⟩, none) := by
          simp only [grantF, if_pos hsl, ← e1, hb, e3, e4, e5]; rfl
        rw [eg, e2]
        have hnk : noJ.k = -1 := rfl
        refine evM [⟨b7, jenc noJ, 40⟩] [0, 0, 1] tab hF hH rfl (by first | exact trivial | (simp only [All, inK_i64, inK_u64, inK_u32, inK_u8, inK_i32, max_i64, max_u64, IntKind.bits, Int.reduceToNat, Int.reduceAdd, Nat.reducePow, Int.reducePow, and_true, true_and, and_self] <;> omega)) ?_
        intro A w hF hH
        refine wpList_nil ?_
        refine cond_t hF rfl rfl ?_
        refine wp_seq ?_
        refine wp_region_lit ?_
        have hH := hH.swap
        refine evF [] [row r (rcells (.slice A0 (bs S1).length cap) a0 S1) 56] (LFok.cons (At.own (off := 12) (vs := [.int .i64 S1.idle]) 0 rfl (own1 rc_idle)) (LFok.nil _ _)) [0, 0, 0, 1, 0, 0, 0] tab hF hH rfl (by first | exact trivial | (simp only [All, inK_i64, inK_u64, inK_u32, inK_u8, inK_i32, max_i64, max_u64, IntKind.bits, Int.reduceToNat, Int.reduceAdd, Nat.reducePow, Int.reducePow, and_true, true_and, and_self] <;> omega)) ?_
        intro A w hF hH
        refine list_act hF rfl ?_
        refine op_storeS hF tab rfl rfl rfl rfl rfl rfl (by rw [rc_len]; decide) hH ?_
        intro A w hF hH
        refine wpList_nil ?_
        refine wp_seq ?_
        refine wp_region_lit ?_
        have hH := rowEq (show putL (rcells (.slice A0 (bs S1).length cap) a0 S1) 12 [.int .i64 (S1.idle + 1)] = rcells (.slice A0 (bs S1).length cap) a0 ⟨S1.ps, S1.last, S1.served, S1.idle + 1⟩ from by rw [putL_one]; exact rc_setIdle _) hH
        have hH := hH.focus 2 rfl
        refine evM [⟨b4, jenc zeroJ, 40⟩] [0, 0, 0] tab hF hH rfl (by first | exact trivial | (simp only [All, inK_i64, inK_u64, inK_u32, inK_u8, inK_i32, max_i64, max_u64, IntKind.bits, Int.reduceToNat, Int.reduceAdd, Nat.reducePow, Int.reducePow, and_true, true_and, and_self] <;> omega)) ?_
        intro A w hF hH
        refine wpList_nil ?_
        refine wp_ret ?_
        repeat (first | refine then_ret ?_ | refine blk_ret ?_ | refine ng_ret ?_)
        refine ret (M := [⟨b4, jenc zeroJ, 40⟩]) (hs := [0]) tab hF hH rfl (by first | exact trivial | (simp only [All, inK_i64, inK_u64, inK_u32, inK_u8, inK_i32, max_i64, max_u64, IntKind.bits, Int.reduceToNat, Int.reduceAdd, Nat.reducePow, Int.reducePow, and_true, true_and, and_self] <;> omega)) ?_
        exact ⟨rfl, (hH.tail.focus 1 rfl).tail⟩
      · have eg : grantF S at_ = (⟨S1.ps.set k (stepP S1.ps[k]), S1.last, S1.served + 1, S1.idle⟩, some { S1.ps[k] with left := S1.ps[k].left - 1 }) := by
          simp only [grantF, if_pos hsl, ← e1, hb, Int.toNat_natCast, List.getElem?_eq_getElem hk, e3, e4, e5]
          rw [if_neg (by omega)]
        rw [eg, e2]
        have hpk := (hs k hk).2
        have hkk := (hs k hk).1
        have hpfk := hpf S1.ps[k] (List.getElem_mem hk)
        have hsr := srv_range hpk hpfk
        have hst := srv_step hpk
        have hdn := rc_done (v := (.slice A0 (bs S1).length cap)) (a0 := a0) hk h8
        have hset := fun q => rc_setDone (v := (.slice A0 (bs S1).length cap)) (a0 := a0) hk h8 q
        generalize S1.ps[k] = p at *
        obtain ⟨E, P, kk, idx, rel, dl, left⟩ := p
        simp only at hkk
        subst hkk
        obtain ⟨q1, q2, q3, q4, q5, q6, q7, q8, q9, q10, q11⟩ := hpfk
        simp only at q1 q2 q3 q4 q5 q6 q7 q8 q9 q10 q11
        generalize hd : srv ⟨E, P, (k : Int), idx, rel, dl, left⟩ = d at *
        refine evM [⟨b7, [.int .i64 (k : Int), .int .i64 idx, .int .i64 rel, .int .i64 dl, .int .i64 left], 40⟩] [0, 0, 2] tab hF hH rfl (by first | exact trivial | (simp only [All, inK_i64, inK_u64, inK_u32, inK_u8, inK_i32, max_i64, max_u64, IntKind.bits, Int.reduceToNat, Int.reduceAdd, Nat.reducePow, Int.reducePow, and_true, true_and, and_self] <;> omega)) ?_
        intro A w hF hH
        refine wpList_nil ?_
        refine cond_f hF rfl rfl ?_
        refine wp_skip ?_
        refine wp_seq ?_
        refine dr_reads (by kernel_rfl) [] [row b7 [.int .i64 (k : Int), .int .i64 idx, .int .i64 rel, .int .i64 dl, .int .i64 left] 40, row r (rcells (.slice A0 (bs S1).length cap) a0 S1) 56] [11] [(0, 0), (1, 0), (2, 1), (3, 0), (4, 0), (5, 0), (6, 3), (7, 0), (8, 0), (9, 0), (10, 0)] 1 tab (LFok.cons (At.own (off := 0) (vs := [.int .i64 (k : Int)]) 0 rfl (own1 rfl)) (LFok.cons (At.own (off := 3 + k) (vs := [.int .i64 d]) 1 rfl (own1 hdn)) (LFok.nil _ _))) (by kernel_rfl) rfl hF hH (by kernel_rfl) rfl (by first | exact trivial | (simp only [All, inK_i64, inK_u64, inK_u32, inK_u8, inK_i32, max_i64, max_u64, IntKind.bits, Int.reduceToNat, Int.reduceAdd, Nat.reducePow, Int.reducePow, and_true, true_and, and_self] <;> omega)) ?_
        intro A w hF hH
        have hH := hH.swap
        refine dr_act (k := 11) (by kernel_rfl) rfl hF rfl ?_
        refine op_storeS hF tab rfl rfl rfl rfl rfl rfl (by rw [rc_len]; show 3 + (k : Int).toNat * 1 + 1 ≤ 13; omega) hH ?_
        intro A w hF hH
        refine ⟨(fun h => absurd h (by decide)), ?_⟩
        refine dr_done (by kernel_rfl) ?_ _
        refine wp_seq ?_
        refine wp_region_lit ?_
        have hH := rowEq (show putL (rcells (.slice A0 (bs S1).length cap) a0 S1) (3 + (k : Int).toNat * 1) [.int .i64 (d + 1)] = rcells (.slice A0 (bs S1).length cap) a0 ⟨S1.ps.set k (stepP ⟨E, P, (k : Int), idx, rel, dl, left⟩), S1.last, S1.served, S1.idle⟩ from by rw [show 3 + (k : Int).toNat * 1 = 3 + k from by omega, putL_one, ← hst]; exact hset _) hH
        refine evF [] [row r (rcells (.slice A0 (bs S1).length cap) a0 ⟨S1.ps.set k (stepP ⟨E, P, (k : Int), idx, rel, dl, left⟩), S1.last, S1.served, S1.idle⟩) 56] (LFok.cons (At.own (off := 11) (vs := [.int .i64 S1.served]) 0 rfl (own1 rc_served)) (LFok.nil _ _)) [0, 0, 0, 1, 0, 0, 0] tab hF hH rfl (by first | exact trivial | (simp only [All, inK_i64, inK_u64, inK_u32, inK_u8, inK_i32, max_i64, max_u64, IntKind.bits, Int.reduceToNat, Int.reduceAdd, Nat.reducePow, Int.reducePow, and_true, true_and, and_self] <;> omega)) ?_
        intro A w hF hH
        refine list_act hF rfl ?_
        refine op_storeS hF tab rfl rfl rfl rfl rfl rfl (by rw [rc_len]; decide) hH ?_
        intro A w hF hH
        refine wpList_nil ?_
        refine wp_seq ?_
        refine wp_region_lit ?_
        have hH := rowEq (show putL (rcells (.slice A0 (bs S1).length cap) a0 ⟨S1.ps.set k (stepP ⟨E, P, (k : Int), idx, rel, dl, left⟩), S1.last, S1.served, S1.idle⟩) 11 [.int .i64 (S1.served + 1)] = rcells (.slice A0 (bs S1).length cap) a0 ⟨S1.ps.set k (stepP ⟨E, P, (k : Int), idx, rel, dl, left⟩), S1.last, S1.served + 1, S1.idle⟩ from by rw [putL_one]; exact rc_setServed _) hH
        have hH := hH.swap
        refine evM [⟨b7, [.int .i64 (k : Int), .int .i64 idx, .int .i64 rel, .int .i64 dl, .int .i64 left], 40⟩] [0, 0, 0, 0, 0] tab hF hH rfl (by first | exact trivial | (simp only [All, inK_i64, inK_u64, inK_u32, inK_u8, inK_i32, max_i64, max_u64, IntKind.bits, Int.reduceToNat, Int.reduceAdd, Nat.reducePow, Int.reducePow, and_true, true_and, and_self] <;> omega)) ?_
        intro A w hF hH
        refine wpList_nil ?_
        refine wp_seq ?_
        refine wp_region_lit ?_
        have hH := (hH.focus 2 rfl).swap
        refine evM [⟨b7, [.int .i64 (k : Int), .int .i64 idx, .int .i64 rel, .int .i64 dl, .int .i64 (left - 1)], 40⟩, ⟨b4, jenc zeroJ, 40⟩] [0, 1, 0] tab hF hH rfl (by first | exact trivial | (simp only [All, inK_i64, inK_u64, inK_u32, inK_u8, inK_i32, max_i64, max_u64, IntKind.bits, Int.reduceToNat, Int.reduceAdd, Nat.reducePow, Int.reducePow, and_true, true_and, and_self] <;> omega)) ?_
        intro A w hF hH
        refine wpList_nil ?_
        refine wp_ret ?_
        repeat (first | refine then_ret ?_ | refine blk_ret ?_ | refine ng_ret ?_)
        refine ret (M := [⟨b7, [.int .i64 (k : Int), .int .i64 idx, .int .i64 rel, .int .i64 dl, .int .i64 (left - 1)], 40⟩, ⟨b4, [.int .i64 (k : Int), .int .i64 idx, .int .i64 rel, .int .i64 dl, .int .i64 (left - 1)], 40⟩]) (hs := [1]) tab hF hH rfl (by first | exact trivial | (simp only [All, inK_i64, inK_u64, inK_u32, inK_u8, inK_i32, max_i64, max_u64, IntKind.bits, Int.reduceToNat, Int.reduceAdd, Nat.reducePow, Int.reducePow, and_true, true_and, and_self] <;> omega)) ?_
        exact ⟨rfl, hH.tail.tail⟩
  · skip
    rw [show decide (S.last ≤ at_ ∧ at_ ≤ 1099511627776) = false from by simpa using hsl] at hF
    have e : grantF S at_ = (S, none) := by rw [grantF, if_neg hsl]
    rw [e]
    have hH := hH.swap
    refine ev0 [0, 0] tab hF hH rfl (by first | exact trivial | (simp only [All, inK_i64, inK_u64, inK_u32, inK_u8, inK_i32, max_i64, max_u64, IntKind.bits, Int.reduceToNat, Int.reduceAdd, Nat.reducePow, Int.reducePow, and_true, true_and, and_self] <;> omega)) ?_
    intro A w hF hH
    refine wpList_nil ?_
    refine cond_t hF rfl rfl ?_
    refine wp_seq ?_
    refine wp_region_lit ?_
    refine evM [⟨b4, jenc zeroJ, 40⟩] [0, 0, 0] tab hF hH rfl (by first | exact trivial | (simp only [All, inK_i64, inK_u64, inK_u32, inK_u8, inK_i32, max_i64, max_u64, IntKind.bits, Int.reduceToNat, Int.reduceAdd, Nat.reducePow, Int.reducePow, and_true, true_and, and_self] <;> omega)) ?_
    intro A w hF hH
    refine wpList_nil ?_
    refine wp_ret ?_
    repeat (first | refine then_ret ?_ | refine blk_ret ?_ | refine ng_ret ?_)
    refine ret (M := [⟨b4, jenc zeroJ, 40⟩]) (hs := [0]) tab hF hH rfl (by first | exact trivial | (simp only [All, inK_i64, inK_u64, inK_u32, inK_u8, inK_i32, max_i64, max_u64, IntKind.bits, Int.reduceToNat, Int.reduceAdd, Nat.reducePow, Int.reducePow, and_true, true_and, and_self] <;> omega)) ?_
    exact ⟨rfl, hH.tail⟩
end
end Go.Proofs.Try
