/- The document's supertask as it lies, and contracts of its small functions. -/
import Derived.Test.YtfapcagleghlaaaYm
set_option linter.all false
namespace Go.Proofs.Try
open Go Go.Sep

/-- How many quanta of each part were handed on. -/
def srvD (ps : List Prt) (i : Nat) : Int := match ps[i]? with | some p => srv p | none => 0
def dn (ps : List Prt) : List Value := (List.range 8).map fun i => .int .i64 (srvD ps i)
def rcells (v : Value) (a0 : Int) (S : Sup) : List Value := v :: .int .i64 a0 :: .int .i64 S.last :: (dn S.ps ++ [.int .i64 S.served, .int .i64 S.idle])
theorem dn_len (ps : List Prt) : (dn ps).length = 8 := by simp [dn]
theorem rc_len (v : Value) (a0 : Int) (S : Sup) : (rcells v a0 S).length = 13 := by simp [rcells, dn_len]
theorem dn_get (ps : List Prt) (k : Nat) (h : k < ps.length) (h8 : ps.length ≤ 8) : (dn ps)[k]? = some (.int .i64 (srv ps[k])) := by
  have : k < 8 := by omega
  simp [dn, this, List.getElem?_range, srvD, h]
theorem rc_done {v : Value} {a0 : Int} {S : Sup} {k : Nat} (h : k < S.ps.length) (h8 : S.ps.length ≤ 8) : (rcells v a0 S)[3 + k]? = some (.int .i64 (srv S.ps[k])) := by
  rw [show 3 + k = k + 1 + 1 + 1 from by omega]
  simp only [rcells, List.getElem?_cons_succ]
  rw [List.getElem?_append_left (by rw [dn_len]; omega)]
  exact dn_get _ _ h h8
theorem rc_served {v : Value} {a0 : Int} {S : Sup} : (rcells v a0 S)[11]? = some (.int .i64 S.served) := by
  simp only [rcells, List.getElem?_cons_succ]
  rw [List.getElem?_append_right (by rw [dn_len]; exact Nat.le_refl _), dn_len]; rfl
theorem rc_idle {v : Value} {a0 : Int} {S : Sup} : (rcells v a0 S)[12]? = some (.int .i64 S.idle) := by
  simp only [rcells, List.getElem?_cons_succ]
  rw [List.getElem?_append_right (by rw [dn_len]; omega), dn_len]; rfl
theorem dn_set (ps : List Prt) (k : Nat) (h : k < ps.length) (h8 : ps.length ≤ 8) (q : Prt) : (dn ps).set k (.int .i64 (srv q)) = dn (ps.set k q) := by
  apply List.ext_getElem?
  intro i
  rw [List.getElem?_set]
  by_cases hi : i < 8
  · by_cases e : k = i
    · subst e
      simp [dn, hi, List.getElem?_range, srvD, h]
    · rw [if_neg e]
      simp [dn, hi, List.getElem?_range, List.getElem?_set, e, srvD]
  · rw [List.getElem?_eq_none (by rw [dn_len]; omega), List.getElem?_eq_none (by rw [dn_len]; omega)]
    split
    · rw [if_neg (by rw [dn_len]; omega)]
    · rfl
theorem rc_setDone {v : Value} {a0 : Int} {S : Sup} {k : Nat} (h : k < S.ps.length) (h8 : S.ps.length ≤ 8) (q : Prt) : (rcells v a0 S).set (3 + k) (.int .i64 (srv q)) = rcells v a0 ⟨S.ps.set k q, S.last, S.served, S.idle⟩ := by
  rw [show 3 + k = k + 1 + 1 + 1 from by omega]
  simp only [rcells, List.set_cons_succ]
  rw [List.set_append_left _ _ (by rw [dn_len]; omega), dn_set _ _ h h8]
theorem rc_setServed {v : Value} {a0 : Int} {S : Sup} (x : Int) : (rcells v a0 S).set 11 (.int .i64 x) = rcells v a0 ⟨S.ps, S.last, x, S.idle⟩ := by
  simp only [rcells, List.set_cons_succ]
  rw [List.set_append_right _ _ (by rw [dn_len]; omega), dn_len]; rfl
theorem rc_setIdle {v : Value} {a0 : Int} {S : Sup} (x : Int) : (rcells v a0 S).set 12 (.int .i64 x) = rcells v a0 ⟨S.ps, S.last, S.served, x⟩ := by
  simp only [rcells, List.set_cons_succ]
  rw [List.set_append_right _ _ (by rw [dn_len]; omega), dn_len]; rfl
/-- The parts' weights, as they lie. -/
def bs (S : Sup) : List (Int × Int) := S.ps.map fun p => (p.E, p.P)
theorem bs_len (S : Sup) : (bs S).length = S.ps.length := by simp [bs]
theorem bs_get (S : Sup) (i : Nat) (h : i < (bs S).length) : (bs S)[i] = ((S.ps[i]'(by simpa [bs] using h)).E, (S.ps[i]'(by simpa [bs] using h)).P) := by simp [bs]
section
variable {κ : K} {w : World} {C : List HP}
set_option maxRecDepth 20000 in
theorem rslot_calls {r : Nat} {v : Value} {a0 : Int} {S : Sup} (at_ : Int) (hH : Hp κ w (row r (rcells v a0 S) 56 :: C)) : Calls Try.prog 46 #[.pointer (some ⟨r, 0, none⟩), .int .i64 at_] w (fun e w' => e = .returned (.bool (decide (S.last ≤ at_ ∧ at_ ≤ 1099511627776))) ∧ Hp κ w' (row r (rcells v a0 S) 56 :: C)) := by
  refine enter (args := [.pointer (some ⟨r, 0, none⟩), .int .i64 at_]) Try.func46 rfl rfl ?_
  intro A hF
  refine wp_seq ?_
  refine wp_region_lit ?_
  refine ev0 [0] tab hF hH rfl (by first | exact trivial | (simp only [All, inK_i64, inK_u64, inK_u32, inK_u8, inK_i32, max_i64, max_u64, IntKind.bits, Int.reduceToNat, Int.reduceAdd, Nat.reducePow, Int.reducePow, and_true, true_and, and_self] <;> omega)) ?_
  intro A w hF hH
  refine wpList_nil ?_
  refine wp_seq ?_
  refine wp_region_lit ?_
  by_cases h1 : S.last ≤ at_
  · refine evF [] [row r (rcells v a0 S) 56] (LFok.cons (At.own (off := 2) (vs := [.int .i64 S.last]) 0 rfl (own1 rfl)) (LFok.nil _ _)) [0, 0, 0, 0, 1, 1, 0, 0, 0, 0, 0] tab hF hH rfl (by first | exact trivial | (simp only [All, inK_i64, inK_u64, inK_u32, inK_u8, inK_i32, max_i64, max_u64, IntKind.bits, Int.reduceToNat, Int.reduceAdd, Nat.reducePow, Int.reducePow, and_true, true_and, and_self] <;> omega)) ?_
    intro A w hF hH
    refine wpList_nil ?_
    refine wp_ret ?_
    repeat (first | refine then_ret ?_ | refine blk_ret ?_ | refine ng_ret ?_)
    refine ret (M := []) (hs := []) tab hF hH rfl (by first | exact trivial | (simp only [All, inK_i64, inK_u64, inK_u32, inK_u8, inK_i32, max_i64, max_u64, IntKind.bits, Int.reduceToNat, Int.reduceAdd, Nat.reducePow, Int.reducePow, and_true, true_and, and_self] <;> omega)) ?_
    exact ⟨by simp [h1]; rfl, hH⟩
  · skip
    refine evF [] [row r (rcells v a0 S) 56] (LFok.cons (At.own (off := 2) (vs := [.int .i64 S.last]) 0 rfl (own1 rfl)) (LFok.nil _ _)) [0, 0, 0, 0, 1, 2, 0, 0, 0, 0, 0] tab hF hH rfl (by first | exact trivial | (simp only [All, inK_i64, inK_u64, inK_u32, inK_u8, inK_i32, max_i64, max_u64, IntKind.bits, Int.reduceToNat, Int.reduceAdd, Nat.reducePow, Int.reducePow, and_true, true_and, and_self] <;> omega)) ?_
    intro A w hF hH
    refine wpList_nil ?_
    refine wp_ret ?_
    repeat (first | refine then_ret ?_ | refine blk_ret ?_ | refine ng_ret ?_)
    refine ret (M := []) (hs := []) tab hF hH rfl (by first | exact trivial | (simp only [All, inK_i64, inK_u64, inK_u32, inK_u8, inK_i32, max_i64, max_u64, IntKind.bits, Int.reduceToNat, Int.reduceAdd, Nat.reducePow, Int.reducePow, and_true, true_and, and_self] <;> omega)) ?_
    exact ⟨by simp [h1]; rfl, hH⟩
set_option maxRecDepth 20000 in
theorem released_calls {r : Nat} {v : Value} {a0 : Int} {S : Sup} {i : Nat} {at_ : Int} (hi : i < S.ps.length) (hv : Rd κ [] 2 wenc v (bs S)) (hp : PInv a0 S.ps[i]) (h0 : 0 ≤ a0) (h1 : a0 ≤ at_) (h2 : at_ ≤ 1099511627776) (hH : Hp κ w (row r (rcells v a0 S) 56 :: C)) :
    Calls Try.prog 47 #[.pointer (some ⟨r, 0, none⟩), .int .i64 i, .int .i64 at_] w (fun e w' => e = .returned (.int .i64 ((at_ - a0) / S.ps[i].P + 1)) ∧ Hp κ w' (row r (rcells v a0 S) 56 :: C)) := by
  have hbl := bs_len S
  obtain ⟨A0, cap, rfl, hcap⟩ := hv.form
  obtain ⟨b0, off0, rfl⟩ := hv.addr (by omega)
  have hat := hv.at_ (fun _ _ => rfl) i (by omega)
  rw [bs_get] at hat
  obtain ⟨p1, p2, p3, p4, p5, p6, p7, p8⟩ := hp
  generalize S.ps[i] = p at *
  have a1 : 0 ≤ (at_ - a0) / p.P := Int.ediv_nonneg (by omega) (by omega)
  have a2 : (at_ - a0) / p.P ≤ at_ - a0 := Int.ediv_le_self _ (by omega)
  have hat1 : ∀ κ' w, κ.le κ' → Hp κ' w [row r (rcells (.slice (some ⟨b0, off0, none⟩) (bs S).length cap) a0 S) 56] → At w ⟨b0, off0 + i * 2 + 1, [.int .i64 p.P]⟩ := fun κ' w l hH => by
    obtain ⟨cs, t, fr, h1, h2⟩ := hat κ' w l hH.nil
    refine ⟨cs, t, fr, h1, fun j u hu => ?_⟩
    cases j with
    | zero => exact h2 1 u hu
    | succ j => simp at hu
  refine enter (args := [.pointer (some ⟨r, 0, none⟩), .int .i64 i, .int .i64 at_]) Try.func47 rfl rfl ?_
  intro A hF
  refine wp_seq ?_
  refine wp_region_lit ?_
  refine ev0 [0] tab hF hH rfl (by first | exact trivial | (simp only [All, inK_i64, inK_u64, inK_u32, inK_u8, inK_i32, max_i64, max_u64, IntKind.bits, Int.reduceToNat, Int.reduceAdd, Nat.reducePow, Int.reducePow, and_true, true_and, and_self] <;> omega)) ?_
  intro A w hF hH
  refine wpList_nil ?_
  refine wp_seq ?_
  refine dr_all (by kernel_rfl) [] [row r (rcells (.slice (some ⟨b0, off0, none⟩) (bs S).length cap) a0 S) 56] [(0, 0), (1, 0), (2, 0), (3, 0), (4, 1), (5, 0), (6, 0), (7, 0), (8, 0), (9, 3), (10, 0), (11, 0), (12, 0), (13, 5), (14, 0), (15, 0), (16, 0)] tab (LFok.cons (At.own (off := 1) (vs := [.int .i64 a0]) 0 rfl (own1 rfl)) (LFok.cons (At.own (off := 0) (vs := [.slice (some ⟨b0, off0, none⟩) (bs S).length cap]) 0 rfl (own1 rfl)) (LFok.cons hat1 (LFok.nil _ _)))) (by kernel_rfl) rfl hF hH (by kernel_rfl) (by kernel_rfl) rfl (by first | exact trivial | (simp only [All, inK_i64, inK_u64, inK_u32, inK_u8, inK_i32, max_i64, max_u64, IntKind.bits, Int.reduceToNat, Int.reduceAdd, Nat.reducePow, Int.reducePow, and_true, true_and, and_self] <;> omega)) ?_
  intro A w hF hH
  refine wp_ret ?_
  repeat (first | refine then_ret ?_ | refine blk_ret ?_ | refine ng_ret ?_)
  refine ret (M := []) (hs := []) tab hF hH rfl (by first | exact trivial | (simp only [All, inK_i64, inK_u64, inK_u32, inK_u8, inK_i32, max_i64, max_u64, IntKind.bits, Int.reduceToNat, Int.reduceAdd, Nat.reducePow, Int.reducePow, and_true, true_and, and_self] <;> omega)) ?_
  exact ⟨rfl, hH⟩
set_option maxRecDepth 20000 in
theorem job_calls {r : Nat} {v : Value} {a0 : Int} {S : Sup} {i : Nat} {q : Prt} (hi : i < S.ps.length) (h8 : S.ps.length ≤ 8) (hv : Rd κ [] 2 wenc v (bs S)) (hp : PInv a0 S.ps[i]) (h0 : 0 ≤ a0) (hd0 : 0 ≤ srv S.ps[i] ∧ srv S.ps[i] ≤ 28147497671065600)
    (hq : PInv a0 q) (hqE : q.E = S.ps[i].E) (hqP : q.P = S.ps[i].P) (hqk : q.k = i) (hqd : (if srv S.ps[i] - q.idx * q.E < 0 then 0 else srv S.ps[i] - q.idx * q.E) = q.E - q.left) (hqf : PFit q) (hH : Hp κ w (row r (rcells v a0 S) 56 :: C)) :
    Calls Try.prog 48 #[.pointer (some ⟨r, 0, none⟩), .int .i64 i, .int .i64 q.idx] w (fun e w' => e = .returned (jval q) ∧ Hp κ w' (row r (rcells v a0 S) 56 :: C)) := by
  have hbl := bs_len S
  obtain ⟨A0, cap, rfl, hcap⟩ := hv.form
  obtain ⟨b0, off0, rfl⟩ := hv.addr (by omega)
  have hat := hv.at_ (fun _ _ => rfl) i (by omega)
  rw [bs_get, ← hqE, ← hqP] at hat
  have hdn := rc_done (v := .slice (some ⟨b0, off0, none⟩) (bs S).length cap) (a0 := a0) hi h8
  obtain ⟨E, P, kk, idx, rel, dl, left⟩ := q
  obtain ⟨q1, q2, q3, q4, q5, q6, q7, q8⟩ := hq
  obtain ⟨f1, f2, f3, f4, f5, f6, f7, f8, f9, f10, f11⟩ := hqf
  simp only at hqE hqP hqk hqd q1 q2 q3 q4 q5 q6 q7 q8 f1 f2 f3 f4 f5 f6 f7 f8 f9 f10 f11 hat
  subst hqk
  generalize srv S.ps[i] = d at *
  have hatr : ∀ κ' w, κ.le κ' → Hp κ' w [row r (rcells (.slice (some ⟨b0, off0, none⟩) (bs S).length cap) a0 S) 56] → At w ⟨b0, off0 + i * 2, wenc (E, P)⟩ := fun κ' w l hH => hat κ' w l hH.nil
  have m1 : a0 + idx * P = rel := by rw [q5, Int.mul_comm]
  have m2 : a0 + (idx + 1) * P = dl := by rw [q6, Int.add_mul, Int.mul_comm]; omega
  have m3 : 0 ≤ idx * P := Int.mul_nonneg q4 (by omega)
  have m4 : 0 ≤ idx * E := Int.mul_nonneg q4 (by omega)
  have m5 : idx * E ≤ idx * P := Int.mul_le_mul_of_nonneg_left q2 q4
  have m6 : 0 ≤ (idx + 1) * P := Int.mul_nonneg (by omega) (by omega)
  refine enter (args := [.pointer (some ⟨r, 0, none⟩), .int .i64 i, .int .i64 idx]) Try.func48 rfl rfl ?_
  intro A hF
  refine wp_seq ?_
  refine wp_region_lit ?_
  refine list_act hF rfl ?_
  refine op_alloc hF tab rfl rfl rfl rfl rfl hH ?_
  intro b6 A w hF hH
  refine wpList_nil ?_
  refine wp_seq ?_
  refine wp_region_lit ?_
  have hH := hH.swap
  refine evF [] [row r (rcells (.slice (some ⟨b0, off0, none⟩) (bs S).length cap) a0 S) 56] (LFok.cons (At.own (off := 0) (vs := [.slice (some ⟨b0, off0, none⟩) (bs S).length cap]) 0 rfl (own1 rfl)) (LFok.cons hatr (LFok.nil _ _))) [0, 0, 0, 1, 0, 0, 3] tab hF hH rfl (by first | exact trivial | (simp only [All, inK_i64, inK_u64, inK_u32, inK_u8, inK_i32, max_i64, max_u64, IntKind.bits, Int.reduceToNat, Int.reduceAdd, Nat.reducePow, Int.reducePow, and_true, true_and, and_self] <;> omega)) ?_
  intro A w hF hH
  refine list_act hF rfl ?_
  refine op_alloc hF tab rfl rfl rfl rfl rfl hH ?_
  intro b7 A w hF hH
  refine evM [⟨b7, [.int .i64 0, .int .i64 0], 45⟩] [0] tab hF hH rfl (by first | exact trivial | (simp only [All, inK_i64, inK_u64, inK_u32, inK_u8, inK_i32, max_i64, max_u64, IntKind.bits, Int.reduceToNat, Int.reduceAdd, Nat.reducePow, Int.reducePow, and_true, true_and, and_self] <;> omega)) ?_
  intro A w hF hH
  refine wpList_nil ?_
  refine wp_seq ?_
  have hH : Hp κ _ (row b7 [.int .i64 E, .int .i64 P] 45 :: _) := hH
  refine dr_reads (by kernel_rfl) [] [row b7 [.int .i64 E, .int .i64 P] 45, row r (rcells (.slice (some ⟨b0, off0, none⟩) (bs S).length cap) a0 S) 56] [23] [(0, 0), (1, 0), (2, 0), (3, 0), (4, 0), (5, 1), (6, 0), (7, 0), (8, 3), (9, 0), (10, 0), (11, 0), (12, 0), (13, 0), (14, 1), (15, 0), (16, 0), (17, 0), (18, 3), (19, 0), (20, 0), (21, 0)] 2 tab (LFok.cons (At.own (off := 1) (vs := [.int .i64 a0]) 1 rfl (own1 rfl)) (LFok.cons (At.own (off := 1) (vs := [.int .i64 P]) 0 rfl (own1 rfl)) (LFok.nil _ _))) (by kernel_rfl) rfl hF hH (by kernel_rfl) rfl (by first | exact trivial | (simp only [All, inK_i64, inK_u64, inK_u32, inK_u8, inK_i32, max_i64, max_u64, IntKind.bits, Int.reduceToNat, Int.reduceAdd, Nat.reducePow, Int.reducePow, and_true, true_and, and_self] <;> omega)) ?_
  intro A w hF hH
  refine dr_act (k := 22) (by kernel_rfl) rfl hF rfl ?_
  refine op_alloc hF tab rfl rfl rfl rfl rfl hH ?_
  intro b8 A w hF hH
  refine ⟨fun _ => Keeps.of hH.tail (K.le.refl _), ?_⟩
  refine dr_act (k := 23) (by kernel_rfl) rfl hF rfl ?_
  refine op_ev (h := 0) (M := [⟨b8, jenc zeroJ, 40⟩]) hF tab hH rfl (by first | exact trivial | (simp only [All, inK_i64, inK_u64, inK_u32, inK_u8, inK_i32, max_i64, max_u64, IntKind.bits, Int.reduceToNat, Int.reduceAdd, Nat.reducePow, Int.reducePow, and_true, true_and, and_self] <;> omega)) rfl ?_
  intro A w hF hH
  refine ⟨fun h => absurd h (by decide), ?_⟩
  refine dr_done (by kernel_rfl) ?_ _
  refine wp_seq ?_
  have hH : Hp κ _ (row b8 [.int .i64 i, .int .i64 idx, .int .i64 (a0 + idx * P), .int .i64 (a0 + (idx + 1) * P), .int .i64 0] 40 :: row b7 [.int .i64 E, .int .i64 P] 45 :: row r (rcells (.slice (some ⟨b0, off0, none⟩) (bs S).length cap) a0 S) 56 :: row b6 (jenc zeroJ) 40 :: C) := hH
  rw [m1, m2] at hH
  have hH := (hH.focus 1 rfl).focus 2 rfl
  refine dr_all (by kernel_rfl) [] [row r (rcells (.slice (some ⟨b0, off0, none⟩) (bs S).length cap) a0 S) 56, row b7 [.int .i64 E, .int .i64 P] 45] [(0, 0), (1, 0), (2, 0), (3, 0), (4, 0), (5, 1), (6, 0), (7, 0), (8, 3), (9, 0), (10, 0), (11, 0)] tab (LFok.cons (At.own (off := 3 + i) (vs := [.int .i64 d]) 0 rfl (own1 hdn)) (LFok.cons (At.own (off := 0) (vs := [.int .i64 E]) 1 rfl (own1 rfl)) (LFok.nil _ _))) (by kernel_rfl) rfl hF hH (by kernel_rfl) (by kernel_rfl) rfl (by first | exact trivial | (simp only [All, inK_i64, inK_u64, inK_u32, inK_u8, inK_i32, max_i64, max_u64, IntKind.bits, Int.reduceToNat, Int.reduceAdd, Nat.reducePow, Int.reducePow, and_true, true_and, and_self] <;> omega)) ?_
  intro A w hF hH
  refine wp_seq ?_
  refine wp_seq ?_
  refine wp_region_lit ?_
  have hH := (hH.focus 1 rfl).focus 2 rfl
  by_cases hneg : d - idx * E < 0
  · rw [if_pos hneg] at hqd
    refine ev0 [0, 1] tab hF hH rfl (by first | exact trivial | (simp only [All, inK_i64, inK_u64, inK_u32, inK_u8, inK_i32, max_i64, max_u64, IntKind.bits, Int.reduceToNat, Int.reduceAdd, Nat.reducePow, Int.reducePow, and_true, true_and, and_self] <;> omega)) ?_
    intro A w hF hH
    refine wpList_nil ?_
    refine cond_t hF rfl rfl ?_
    refine wp_region_lit ?_
    refine ev0 [0] tab hF hH rfl (by first | exact trivial | (simp only [All, inK_i64, inK_u64, inK_u32, inK_u8, inK_i32, max_i64, max_u64, IntKind.bits, Int.reduceToNat, Int.reduceAdd, Nat.reducePow, Int.reducePow, and_true, true_and, and_self] <;> omega)) ?_
    intro A w hF hH
    refine wpList_nil ?_
    refine wp_seq ?_
    refine wp_region_lit ?_
    have hl : E - 0 = left := by omega
    refine evF [⟨b8, [.int .i64 i, .int .i64 idx, .int .i64 rel, .int .i64 dl, .int .i64 0], 40⟩] [row b7 [.int .i64 E, .int .i64 P] 45] (LFok.cons (At.own (off := 0) (vs := [.int .i64 E]) 0 rfl (own1 rfl)) (LFok.nil _ _)) [0, 1, 0, 0, 0, 0] tab hF hH rfl (by first | exact trivial | (simp only [All, inK_i64, inK_u64, inK_u32, inK_u8, inK_i32, max_i64, max_u64, IntKind.bits, Int.reduceToNat, Int.reduceAdd, Nat.reducePow, Int.reducePow, and_true, true_and, and_self] <;> omega)) ?_
    intro A w hF hH
    refine wpList_nil ?_
    refine wp_seq ?_
    refine wp_region_lit ?_
    rw [hl] at hH
    have hH := (hH.focus 3 rfl).swap
    refine evM [⟨b8, [.int .i64 i, .int .i64 idx, .int .i64 rel, .int .i64 dl, .int .i64 left], 40⟩, ⟨b6, jenc zeroJ, 40⟩] [0, 1] tab hF hH rfl (by first | exact trivial | (simp only [All, inK_i64, inK_u64, inK_u32, inK_u8, inK_i32, max_i64, max_u64, IntKind.bits, Int.reduceToNat, Int.reduceAdd, Nat.reducePow, Int.reducePow, and_true, true_and, and_self] <;> omega)) ?_
    intro A w hF hH
    refine wpList_nil ?_
    refine wp_ret ?_
    repeat (first | refine then_ret ?_ | refine blk_ret ?_ | refine ng_ret ?_)
    refine ret (M := [⟨b8, [.int .i64 i, .int .i64 idx, .int .i64 rel, .int .i64 dl, .int .i64 left], 40⟩, ⟨b6, [.int .i64 i, .int .i64 idx, .int .i64 rel, .int .i64 dl, .int .i64 left], 40⟩]) (hs := [1]) tab hF hH rfl (by first | exact trivial | (simp only [All, inK_i64, inK_u64, inK_u32, inK_u8, inK_i32, max_i64, max_u64, IntKind.bits, Int.reduceToNat, Int.reduceAdd, Nat.reducePow, Int.reducePow, and_true, true_and, and_self] <;> omega)) ?_
    exact ⟨rfl, hH.tail.tail.tail⟩
  · skip
    rw [if_neg hneg] at hqd
    refine ev0 [0, 2] tab hF hH rfl (by first | exact trivial | (simp only [All, inK_i64, inK_u64, inK_u32, inK_u8, inK_i32, max_i64, max_u64, IntKind.bits, Int.reduceToNat, Int.reduceAdd, Nat.reducePow, Int.reducePow, and_true, true_and, and_self] <;> omega)) ?_
    intro A w hF hH
    refine wpList_nil ?_
    refine cond_f hF rfl rfl ?_
    refine wp_skip ?_
    refine wp_seq ?_
    refine wp_region_lit ?_
    have hl : E - (d - idx * E) = left := by omega
    refine evF [⟨b8, [.int .i64 i, .int .i64 idx, .int .i64 rel, .int .i64 dl, .int .i64 0], 40⟩] [row b7 [.int .i64 E, .int .i64 P] 45] (LFok.cons (At.own (off := 0) (vs := [.int .i64 E]) 0 rfl (own1 rfl)) (LFok.nil _ _)) [0, 1, 0, 0, 0, 0] tab hF hH rfl (by first | exact trivial | (simp only [All, inK_i64, inK_u64, inK_u32, inK_u8, inK_i32, max_i64, max_u64, IntKind.bits, Int.reduceToNat, Int.reduceAdd, Nat.reducePow, Int.reducePow, and_true, true_and, and_self] <;> omega)) ?_
    intro A w hF hH
    refine wpList_nil ?_
    refine wp_seq ?_
    refine wp_region_lit ?_
    rw [hl] at hH
    have hH := (hH.focus 3 rfl).swap
    refine evM [⟨b8, [.int .i64 i, .int .i64 idx, .int .i64 rel, .int .i64 dl, .int .i64 left], 40⟩, ⟨b6, jenc zeroJ, 40⟩] [0, 1] tab hF hH rfl (by first | exact trivial | (simp only [All, inK_i64, inK_u64, inK_u32, inK_u8, inK_i32, max_i64, max_u64, IntKind.bits, Int.reduceToNat, Int.reduceAdd, Nat.reducePow, Int.reducePow, and_true, true_and, and_self] <;> omega)) ?_
    intro A w hF hH
    refine wpList_nil ?_
    refine wp_ret ?_
    repeat (first | refine then_ret ?_ | refine blk_ret ?_ | refine ng_ret ?_)
    refine ret (M := [⟨b8, [.int .i64 i, .int .i64 idx, .int .i64 rel, .int .i64 dl, .int .i64 left], 40⟩, ⟨b6, [.int .i64 i, .int .i64 idx, .int .i64 rel, .int .i64 dl, .int .i64 left], 40⟩]) (hs := [1]) tab hF hH rfl (by first | exact trivial | (simp only [All, inK_i64, inK_u64, inK_u32, inK_u8, inK_i32, max_i64, max_u64, IntKind.bits, Int.reduceToNat, Int.reduceAdd, Nat.reducePow, Int.reducePow, and_true, true_and, and_self] <;> omega)) ?_
    exact ⟨rfl, hH.tail.tail.tail⟩
end
end Go.Proofs.Try
