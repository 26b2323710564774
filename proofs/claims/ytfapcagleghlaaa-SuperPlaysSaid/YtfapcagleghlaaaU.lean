/- The plain law of a supertask: what waits, what is due, what a grant turns. -/
import Derived.Test.YtfapcagleghlaaaSd
set_option linter.all false
namespace Go.Proofs.Try
open Go Go.Sep

def sumL (f : Prt → Int) : List Prt → Int
  | [] => 0
  | p :: ps => f p + sumL f ps
theorem sumL_set (f : Prt → Int) : ∀ (ps : List Prt) (k : Nat) (h : k < ps.length) (p' : Prt), sumL f (ps.set k p') = sumL f ps - f ps[k] + f p'
  | p :: ps, 0, _, p' => by simp [sumL]; omega
  | p :: ps, k + 1, h, p' => by
    have := sumL_set f ps k (by simpa using h) p'
    simp only [List.set_cons_succ, sumL, List.getElem_cons_succ, this]; omega
theorem sumL_le {f g : Prt → Int} : ∀ {ps : List Prt}, (∀ p ∈ ps, f p ≤ g p) → sumL f ps ≤ sumL g ps
  | [], _ => Int.le_refl _
  | p :: ps, h => by
    have h1 := h p (List.mem_cons_self ..)
    have h2 := sumL_le fun q hq => h q (List.mem_cons_of_mem _ hq)
    simp only [sumL]; omega
theorem sumL_nonneg {f : Prt → Int} {ps : List Prt} (h : ∀ p ∈ ps, 0 ≤ f p) : 0 ≤ sumL f ps := by
  have : sumL (fun _ => 0) ps ≤ sumL f ps := sumL_le h
  have e : sumL (fun _ => 0) ps = 0 := by
    clear h this
    induction ps with
    | nil => rfl
    | cons p ps ih => simp [sumL, ih]
  omega
theorem sumL_mem_le {f : Prt → Int} : ∀ {ps : List Prt}, (∀ p ∈ ps, 0 ≤ f p) → ∀ p ∈ ps, f p ≤ sumL f ps
  | q :: ps, h, p, hp => by
    have h1 := h q (List.mem_cons_self ..)
    have h2 := sumL_nonneg fun r hr => h r (List.mem_cons_of_mem _ hr)
    simp only [sumL]
    rcases List.mem_cons.1 hp with rfl | hp
    · omega
    · have := sumL_mem_le (fun r hr => h r (List.mem_cons_of_mem _ hr)) p hp; omega
theorem sumL_zero {f : Prt → Int} : ∀ {ps : List Prt}, (∀ p ∈ ps, f p = 0) → sumL f ps = 0
  | [], _ => rfl
  | p :: ps, h => by simp only [sumL, h p (List.mem_cons_self ..), sumL_zero fun q hq => h q (List.mem_cons_of_mem _ hq)]; rfl
theorem misL_sum (t : Int) : ∀ ps, misL t ps = sumL (misP t) ps
  | [] => rfl
  | p :: ps => by simp only [misL, sumL, misL_sum t ps]

/-- A part as it stands, of a supertask that began at a0. -/
structure PInv (a0 : Int) (p : Prt) : Prop where
  E1 : 1 ≤ p.E
  EP : p.E ≤ p.P
  P24 : p.P ≤ 24
  idx0 : 0 ≤ p.idx
  rel : p.rel = a0 + p.P * p.idx
  dl : p.dl = a0 + p.P * p.idx + p.P
  left1 : 1 ≤ p.left
  leftE : p.left ≤ p.E
def SInv (a0 : Int) (ps : List Prt) : Prop := ∀ (i : Nat) (h : i < ps.length), ps[i].k = i ∧ PInv a0 ps[i]
theorem SInv.mem {a0 : Int} {ps : List Prt} (h : SInv a0 ps) : ∀ p ∈ ps, PInv a0 p := fun p hp => by
  obtain ⟨i, hi, rfl⟩ := List.mem_iff_getElem.1 hp
  exact (h i hi).2
theorem stepP_inv {a0 : Int} {p : Prt} (h : PInv a0 p) : PInv a0 (stepP p) ∧ (stepP p).k = p.k ∧ (stepP p).E = p.E ∧ (stepP p).P = p.P := by
  obtain ⟨h1, h2, h3, h4, h5, h6, h7, h8⟩ := h
  unfold stepP
  split
  · refine ⟨⟨h1, h2, h3, by simp only [nextP]; omega, ?_, ?_, h1, Int.le_refl _⟩, rfl, rfl, rfl⟩
    · simp only [nextP, h6, Int.mul_add]; omega
    · simp only [nextP, h6, Int.mul_add]; omega
  · exact ⟨⟨h1, h2, h3, h4, h5, h6, by simp only; omega, by simp only; omega⟩, rfl, rfl, rfl⟩
theorem SInv.set {a0 : Int} {ps : List Prt} (h : SInv a0 ps) (k : Nat) (hk : k < ps.length) : SInv a0 (ps.set k (stepP ps[k])) := by
  intro i hi
  rw [List.length_set] at hi
  rw [List.getElem_set]
  split
  · rename_i e
    subst e
    have := stepP_inv (h k hk).2
    exact ⟨by rw [this.2.1]; exact (h k hk).1, this.1⟩
  · exact h i hi
theorem ordF_lss (q p : Prt) : ordF q p < 0 ↔ q.dl < p.dl ∨ (q.dl = p.dl ∧ q.k < p.k) := by
  unfold ordF
  rcases Int.lt_trichotomy q.dl p.dl with h | h | h
  · rw [cmpI_lt h, if_pos (by omega)]; omega
  · rw [h, cmpI_eq, if_neg (by omega), cmpI_lss]; omega
  · rw [cmpI_gt h, if_pos (by omega)]; omega
theorem bestN_spec {a0 : Int} {ps : List Prt} (hs : SInv a0 ps) (at_ : Int) : ∀ n, n ≤ ps.length →
    (bestN at_ ps n = -1 ∧ ∀ i (h : i < ps.length), i < n → at_ < ps[i].rel) ∨
    ∃ k, ∃ hk : k < ps.length, k < n ∧ bestN at_ ps n = k ∧ ps[k].rel ≤ at_ ∧ ∀ i (h : i < ps.length), i < n → ps[i].rel ≤ at_ → ps[k].dl < ps[i].dl ∨ (ps[k].dl = ps[i].dl ∧ k ≤ i) := by
  intro n
  induction n with
  | zero => intro _; exact .inl ⟨rfl, fun i _ h => by omega⟩
  | succ n ih =>
    intro hn
    have hnl : n < ps.length := by omega
    have hun : bestN at_ ps (n + 1) = if at_ < (ps[n]).rel then bestN at_ ps n else
          match ps[(bestN at_ ps n).toNat]? with
          | some q => if 0 ≤ bestN at_ ps n ∧ ordF q ps[n] < 0 then bestN at_ ps n else n
          | none => n := by
        conv => lhs; unfold bestN
        rw [List.getElem?_eq_getElem hnl]
        rfl
    rw [hun]
    by_cases hr : at_ < ps[n].rel
    · rw [if_pos hr]
      rcases ih (by omega) with ⟨h1, h2⟩ | ⟨k, hk, hkn, h1, h2, h3⟩
      · left
        refine ⟨h1, fun i hi hin => ?_⟩
        by_cases e : i = n
        · subst e; exact hr
        · exact h2 i hi (by omega)
      · right
        refine ⟨k, hk, by omega, h1, h2, fun i hi hin hir => ?_⟩
        by_cases e : i = n
        · subst e; omega
        · exact h3 i hi (by omega) hir
    · rw [if_neg hr]
      rcases ih (by omega) with ⟨h1, h2⟩ | ⟨k, hk, hkn, h1, h2, h3⟩
      · right
        refine ⟨n, hnl, by omega, ?_, by omega, fun i hi hin hir => ?_⟩
        · rw [h1]; split
          · rw [if_neg (by omega)]
          · rfl
        · by_cases e : i = n
          · subst e; right; exact ⟨rfl, Nat.le_refl _⟩
          · have := h2 i hi (by omega); omega
      · have e1 : (bestN at_ ps n).toNat = k := by rw [h1]; simp
        rw [e1, List.getElem?_eq_getElem hk, h1]
        simp only
        have hord := ordF_lss ps[k] ps[n]
        rw [(hs k hk).1, (hs n hnl).1] at hord
        by_cases ho : ordF ps[k] ps[n] < 0
        · rw [if_pos ⟨by omega, ho⟩]
          have ho := hord.1 ho
          right
          refine ⟨k, hk, by omega, rfl, h2, fun i hi hin hir => ?_⟩
          by_cases e : i = n
          · subst e; omega
          · exact h3 i hi (by omega) hir
        · rw [if_neg (fun h => ho h.2)]
          have ho := fun h => ho (hord.2 h)
          right
          refine ⟨n, hnl, by omega, rfl, by omega, fun i hi hin hir => ?_⟩
          by_cases e : i = n
          · subst e; right; exact ⟨rfl, Nat.le_refl _⟩
          · have := h3 i hi (by omega) hir
            have hlt : ps[n].dl < ps[k].dl := by omega
            left; omega
theorem grant_cases {a0 : Int} {S : Sup} (hs : SInv a0 S.ps) (at_ : Int) (h1 : S.last ≤ at_) (h2 : at_ ≤ 1099511627776) :
    (grantF S at_ = (⟨S.ps, at_, S.served, S.idle + 1⟩, none) ∧ ∀ p ∈ S.ps, at_ < p.rel) ∨
    ∃ k, ∃ hk : k < S.ps.length, grantF S at_ = (⟨S.ps.set k (stepP S.ps[k]), at_, S.served + 1, S.idle⟩, some { S.ps[k] with left := S.ps[k].left - 1 }) ∧ S.ps[k].rel ≤ at_ ∧
      ∀ i (h : i < S.ps.length), S.ps[i].rel ≤ at_ → S.ps[k].dl < S.ps[i].dl ∨ (S.ps[k].dl = S.ps[i].dl ∧ k ≤ i) := by
  rcases bestN_spec hs at_ S.ps.length (Nat.le_refl _) with ⟨e, h⟩ | ⟨k, hk, _, e, h, h'⟩
  · left
    refine ⟨by simp only [grantF, if_pos (And.intro h1 h2), e]; rfl, fun p hp => ?_⟩
    obtain ⟨i, hi, rfl⟩ := List.mem_iff_getElem.1 hp
    exact h i hi hi
  · right
    refine ⟨k, hk, ?_, h, fun i hi hr => h' i hi hi hr⟩
    simp only [grantF, if_pos (And.intro h1 h2), e, Int.toNat_natCast, List.getElem?_eq_getElem hk]
    rw [if_neg (by omega)]
/-- What a part was served; what waits that is due by d; what is due within x slots. -/
def srv (p : Prt) : Int := p.idx * p.E + (p.E - p.left)
def dm (d : Int) (p : Prt) : Int := max 0 (d / p.P * p.E - srv p)
def dem (x : Int) (p : Prt) : Int := x / p.P * p.E
theorem srv_step {a0 : Int} {p : Prt} (h : PInv a0 p) : srv (stepP p) = srv p + 1 := by
  unfold stepP srv
  split
  · simp only [nextP, Int.add_mul]; omega
  · simp only; omega
theorem dm_after {p : Prt} (h : PInv 0 p) {d u : Int} (hu : u ≤ p.rel) (hd : u ≤ d) : dm d p ≤ dem (d - u) p := by
  obtain ⟨h1, h2, h3, h4, h5, h6, h7, h8⟩ := h
  have hP : 0 < p.P := by omega
  have e0 : 0 ≤ (d - u) / p.P := Int.ediv_nonneg (by omega) (by omega)
  have e1 : d / p.P - p.idx ≤ (d - u) / p.P := by
    have : (d - p.P * p.idx) / p.P = d / p.P - p.idx := by
      rw [Int.sub_mul_ediv_left _ _ (by omega)]
    rw [← this]
    exact Int.ediv_le_ediv hP (by omega)
  have e2 := Int.mul_le_mul_of_nonneg_right e1 (show 0 ≤ p.E by omega)
  have e3 : 0 ≤ (d - u) / p.P * p.E := Int.mul_nonneg e0 (by omega)
  rw [Int.sub_mul] at e2
  simp only [dm, dem, srv]
  omega
theorem dm_late {p : Prt} (h : PInv 0 p) {d : Int} (hd : d < p.dl) : dm d p = 0 := by
  obtain ⟨h1, h2, h3, h4, h5, h6, h7, h8⟩ := h
  have hP : 0 < p.P := by omega
  have e1 : d / p.P < p.idx + 1 := Int.ediv_lt_of_lt_mul hP (by rw [Int.add_mul, Int.mul_comm]; omega)
  have e2 := Int.mul_le_mul_of_nonneg_right (show d / p.P ≤ p.idx by omega) (show 0 ≤ p.E by omega)
  simp only [dm, srv]
  omega
theorem dm_due {p : Prt} (h : PInv 0 p) {d : Int} (hd : p.dl ≤ d) : 1 ≤ dm d p ∧ dm d (stepP p) = dm d p - 1 := by
  have hst := stepP_inv h
  have hsv := srv_step h
  obtain ⟨h1, h2, h3, h4, h5, h6, h7, h8⟩ := h
  have hP : 0 < p.P := by omega
  have e1 : p.idx + 1 ≤ d / p.P := (Int.le_ediv_iff_mul_le hP).2 (by rw [Int.add_mul, Int.mul_comm]; omega)
  have e2 := Int.mul_le_mul_of_nonneg_right e1 (show 0 ≤ p.E by omega)
  rw [Int.add_mul] at e2
  have e3 : 1 ≤ d / p.P * p.E - srv p := by simp only [srv]; omega
  refine ⟨by simp only [dm]; omega, ?_⟩
  simp only [dm, hst.2.2.1, hst.2.2.2, hsv]
  omega
theorem dm_nonneg (d : Int) (p : Prt) : 0 ≤ dm d p := by simp only [dm]; omega
theorem dm_step_le {a0 : Int} {p : Prt} (h : PInv a0 p) (d : Int) : dm d (stepP p) ≤ dm d p := by
  have hst := stepP_inv h
  have hsv := srv_step h
  simp only [dm, hst.2.2.1, hst.2.2.2, hsv]
  omega
/-- The parts' weights stay. -/
def Base (base : List (Int × Int)) (ps : List Prt) : Prop := ps.map (fun p => (p.E, p.P)) = base
def demB (x : Int) : List (Int × Int) → Int
  | [] => 0
  | p :: ps => x / p.2 * p.1 + demB x ps
theorem dem_base (x : Int) : ∀ {ps : List Prt} {base : List (Int × Int)}, Base base ps → sumL (dem x) ps = demB x base
  | [], _, h => by cases h; rfl
  | p :: ps, _, h => by
    cases h
    simp only [sumL, List.map_cons, demB, dem, dem_base x (ps := ps) rfl]
theorem Base.set {a0 : Int} {base : List (Int × Int)} {ps : List Prt} (h : Base base ps) (k : Nat) (hk : k < ps.length) (hs : PInv a0 ps[k]) : Base base (ps.set k (stepP ps[k])) := by
  unfold Base at *
  rw [List.map_set, (stepP_inv hs).2.2.1, (stepP_inv hs).2.2.2, h]
  subst h
  apply List.ext_getElem?
  intro i
  rw [List.getElem?_set]
  split
  · rename_i e
    subst e
    simp [hk]
  · rfl
/-- What a grant turns of what waits. -/
theorem grant_dm {S : Sup} {base : List (Int × Int)} (hs : SInv 0 S.ps) (hb : Base base S.ps) (t d : Int) (h1 : S.last ≤ t) (h2 : t ≤ 1099511627776) (hd : t + 1 ≤ d) :
    sumL (dm d) (grantF S t).1.ps ≤ sumL (dm d) S.ps ∧ ((1 ≤ sumL (dm d) S.ps ∧ sumL (dm d) (grantF S t).1.ps = sumL (dm d) S.ps - 1) ∨ sumL (dm d) (grantF S t).1.ps ≤ demB (d - (t + 1)) base) := by
  have hdem : ∀ p ∈ S.ps, 0 ≤ dem (d - (t + 1)) p := fun p hp => by
    have h := hs.mem p hp
    exact Int.mul_nonneg (Int.ediv_nonneg (by omega) (by have := h.E1; have := h.EP; omega)) (by have := h.E1; omega)
  rcases grant_cases hs t h1 h2 with ⟨e, hrel⟩ | ⟨k, hk, e, hkr, hmin⟩
  · rw [e]
    refine ⟨Int.le_refl _, .inr ?_⟩
    rw [← dem_base _ hb]
    exact sumL_le fun p hp => dm_after (hs.mem p hp) (by have := hrel p hp; omega) hd
  · rw [e]
    simp only
    have hpk := (hs k hk).2
    rw [sumL_set _ _ _ hk]
    have hle := dm_step_le hpk d
    refine ⟨by omega, ?_⟩
    by_cases hdl : S.ps[k].dl ≤ d
    · left
      have h3 := dm_due hpk hdl
      have h4 := sumL_mem_le (f := dm d) (fun p _ => dm_nonneg d p) S.ps[k] (List.getElem_mem hk)
      omega
    · right
      have : sumL (dm d) S.ps ≤ demB (d - (t + 1)) base := by
        rw [← dem_base _ hb]
        refine sumL_le fun p hp => ?_
        by_cases hr : p.rel ≤ t
        · obtain ⟨i, hi, rfl⟩ := List.mem_iff_getElem.1 hp
          have := hmin i hi hr
          rw [dm_late (hs i hi).2 (by omega)]
          exact hdem _ hp
        · exact dm_after (hs.mem p hp) (by omega) hd
      omega
theorem grant_inv {a0 : Int} {S : Sup} {base : List (Int × Int)} (hs : SInv a0 S.ps) (hb : Base base S.ps) (t : Int) (h1 : S.last ≤ t) (h2 : t ≤ 1099511627776) :
    SInv a0 (grantF S t).1.ps ∧ Base base (grantF S t).1.ps ∧ (grantF S t).1.last = t ∧ (grantF S t).1.ps.length = S.ps.length ∧
    (grantF S t).1.served + (grantF S t).1.idle = S.served + S.idle + 1 ∧ S.served ≤ (grantF S t).1.served ∧ S.idle ≤ (grantF S t).1.idle ∧ (S.served = sumL srv S.ps → (grantF S t).1.served = sumL srv (grantF S t).1.ps) := by
  rcases grant_cases hs t h1 h2 with ⟨e, hrel⟩ | ⟨k, hk, e, hkr, hmin⟩
  · rw [e]
    exact ⟨hs, hb, rfl, rfl, by simp only; omega, by simp only; omega, by simp only; omega, fun h => h⟩
  · rw [e]
    have hpk := (hs k hk).2
    refine ⟨hs.set k hk, hb.set k hk hpk, rfl, by simp, by simp only; omega, by simp only; omega, by simp only; omega, fun h => ?_⟩
    simp only
    rw [sumL_set _ _ _ hk, srv_step hpk, h]; omega
/-- Nothing that is due waits: nothing is missed. -/
theorem missed_zero {ps : List Prt} (hs : SInv 0 ps) {t : Int} (h : sumL (dm t) ps ≤ 0) : misL t ps = 0 := by
  rw [misL_sum]
  refine sumL_zero fun p hp => ?_
  have h1 := hs.mem p hp
  have h2 := sumL_mem_le (f := dm t) (fun p _ => dm_nonneg t p) p hp
  have h3 : ¬ p.dl ≤ t := fun hd => by
    have := (dm_due h1 hd).1; omega
  simp only [misP, if_neg h3]
theorem dem_le {L : Int} (hL : 1 ≤ L) {x : Int} (hx : 0 ≤ x) : ∀ {base : List (Int × Int)}, (∀ p ∈ base, POk p) → (∀ p ∈ base, p.2 ∣ L) → demB x base * L ≤ x * sumS L base
  | [], _, _ => by simp [demB, sumS]
  | p :: base, h1, h2 => by
    have ih := dem_le hL hx (fun q hq => h1 q (List.mem_cons_of_mem _ hq)) (fun q hq => h2 q (List.mem_cons_of_mem _ hq))
    obtain ⟨a1, a2, a3⟩ := h1 p (List.mem_cons_self ..)
    obtain ⟨M, rfl⟩ := h2 p (List.mem_cons_self ..)
    have hP : 0 < p.2 := by omega
    have hPM : p.2 * M / p.2 = M := Int.mul_ediv_cancel_left _ (by omega)
    have hM : 0 ≤ M := by
      rcases Int.lt_or_le M 0 with h | h
      · have := Int.mul_neg_of_pos_of_neg hP h; omega
      · exact h
    simp only [demB, sumS, Int.add_mul, Int.mul_add, hPM]
    have e : x / p.2 * p.1 * (p.2 * M) ≤ x * (p.1 * M) := by
      have e1 : x / p.2 * p.1 * (p.2 * M) = (x / p.2 * p.2) * (p.1 * M) := by
        rw [Int.mul_assoc, Int.mul_assoc, Int.mul_left_comm p.1]
      rw [e1]
      exact Int.mul_le_mul_of_nonneg_right (Int.ediv_mul_le x (by omega)) (Int.mul_nonneg (by omega) hM)
    omega
theorem dem_le_one {base : List (Int × Int)} (hp : ∀ p ∈ base, POk p) (hw : sumS (perF base) base ≤ perF base) {x : Int} (hx : 0 ≤ x) : demB x base ≤ x := by
  obtain ⟨h1, h2⟩ := perF_spec hp
  have h3 := dem_le h1 hx hp h2
  have h4 : x * sumS (perF base) base ≤ x * perF base := Int.mul_le_mul_of_nonneg_left hw hx
  exact Int.le_of_mul_le_mul_right (Int.le_trans h3 h4) (by omega)
end Go.Proofs.Try
