/- SuperMeets: who has its weight's quanta within their windows misses nothing; the plain law and the walk. -/
import Derived.Test.YtfapcagleghlaaaTc
import Derived.Test.YtfapcagleghlaaaVa
set_option linter.all false
namespace Go.Proofs.Try
open Go Go.Sep

theorem grant_dm_le {S : Sup} (hs : SInv 0 S.ps) (t d : Int) (h1 : S.last ≤ t) (h2 : t ≤ 1099511627776) : sumL (dm d) (grantF S t).1.ps ≤ sumL (dm d) S.ps := by
  rcases grant_cases hs t h1 h2 with ⟨e, hrel⟩ | ⟨k, hk, e, hkr, hmin⟩
  · rw [e]; exact Int.le_refl _
  · rw [e]
    simp only
    rw [sumL_set _ _ _ hk]
    have := dm_step_le (hs k hk).2 d
    omega
theorem missedF_zero {S : Sup} (hs : SInv 0 S.ps) {t : Int} (h : sumL (dm t) S.ps ≤ 0) : missedF S t = 0 := by
  unfold missedF
  split
  · exact missed_zero hs h
  · rfl
theorem demB_small {x : Int} (h0 : 0 ≤ x) : ∀ {base : List (Int × Int)}, (∀ p ∈ base, POk p) → (∀ p ∈ base, x < p.2) → demB x base = 0
  | [], _, _ => rfl
  | p :: base, h1, h2 => by
    have a := h2 p (List.mem_cons_self ..)
    simp only [demB, Int.ediv_eq_zero_of_lt h0 a, demB_small h0 (fun q hq => h1 q (List.mem_cons_of_mem _ hq)) (fun q hq => h2 q (List.mem_cons_of_mem _ hq))]
    omega
/-- The weight that the parts need. -/
structure WW (ps : List (Int × Int)) (E L : Int) : Prop where
  parts : ∀ p ∈ ps, POk p
  L1 : 1 ≤ L
  L2 : L ≤ 1048576
  E1 : 1 ≤ E
  EL : E ≤ L
  dvd : ∀ p ∈ ps, p.2 ∣ L
  S : sumS L ps ≤ E
  one : demB 0 ps ≤ 0 → ∀ x, 0 ≤ x → demB x ps ≤ x
  much : E = L ∨ ∃ m, 1 ≤ m ∧ (∀ p ∈ ps, m ≤ p.2) ∧ m ∣ L ∧ E = L / m + sumS L ps
theorem WW.of {ps : List (Int × Int)} (hp : ∀ p ∈ ps, POk p) (h : (weightF ps).2.2 = 0) : WW ps (weightF ps).1 (weightF ps).2.1 := by
  obtain ⟨w0, w1, w2, w3⟩ := weightF_ok h
  obtain ⟨p1, p2⟩ := perF_spec hp
  obtain ⟨m1, q, hq, m2⟩ := minP_spec hp w0
  have hmP := hp q hq
  have hm1 : 1 ≤ minP ps := by have := hmP.1; have := hmP.2.1; omega
  have hmd : minP ps ∣ perF ps := by rw [m2]; exact p2 q hq
  have hml : minP ps ≤ perF ps := Int.le_of_dvd (by omega) hmd
  have hq1 : 1 ≤ perF ps / minP ps := (Int.le_ediv_iff_mul_le (by omega)).2 (by omega)
  obtain ⟨s0, _⟩ := sumS_range (L := perF ps) (by omega) w1 ps hp
  rw [w3]
  simp only
  refine ⟨hp, p1, w1, by omega, by omega, p2, by omega, fun _ x hx => dem_le_one hp w2 hx, ?_⟩
  by_cases hc : perF ps / minP ps + sumS (perF ps) ps ≤ perF ps
  · right
    exact ⟨minP ps, hm1, m1, hmd, by omega⟩
  · left; omega
theorem WW.dem {ps : List (Int × Int)} {E L : Int} (h : WW ps E L) {x : Int} (hx : 0 ≤ x) : demB x ps * L ≤ x * sumS L ps := dem_le h.L1 hx h.parts h.dvd
/-- Ahead of the window of quantum i. -/
structure Meets (ps : List (Int × Int)) (E L : Int) (i : Int) (last : Int) (S : Sup) : Prop where
  fit : Fit 0 (i - 1) (last + 1) S
  base : Base ps S.ps
  len : S.ps.length = ps.length
  slast : S.last ≤ last + 1
  l0 : -1 ≤ last
  l1 : last < upF ((i - 1) * L) E
  l2 : last < 200
  due : ∀ d, last + 1 ≤ d → sumL (dm d) S.ps ≤ max 0 (d * E / L - (i - 1))
  mis : missedF S last = 0
theorem Meets.new {ps : List (Int × Int)} {E L : Int} (h : WW ps E L) : Meets ps E L 1 (-1) (newS 0 ps) := by
  obtain ⟨g1, g2, g3⟩ := newS_inv h.parts 0
  have hE := h.E1
  refine ⟨Fit.new h.parts (Int.le_refl _) (by omega) _, g2, g3, by simp [newS], by omega, ?_, by omega, fun d hd => ?_, by simp [missedF, newS]⟩
  · have : upF ((1 - 1) * L) E = 0 := by simp [upF]
    rw [this]; omega
  · rw [new_dm h.parts (by omega)]
    have h1 := h.dem (x := d) (by omega)
    have h2 : d * sumS L ps ≤ d * E := Int.mul_le_mul_of_nonneg_left h.S (by omega)
    have h3 : demB d ps ≤ d * E / L := (Int.le_ediv_iff_mul_le (by have := h.L1; omega)).2 (Int.le_trans h1 h2)
    omega
theorem ceil_lt {a b t : Int} (h0 : 0 ≤ a) (hb : 1 ≤ b) (h : t < upF a b) : t * b < a := by
  have h3 := Int.mul_ediv_add_emod a b
  have h4 := Int.emod_lt_of_pos a (show 0 < b by omega)
  rw [Int.mul_comm] at h3
  unfold upF at h
  split at h
  · have := Int.mul_le_mul_of_nonneg_right (show t ≤ a / b by omega) (show 0 ≤ b by omega)
    omega
  · have := Int.mul_le_mul_of_nonneg_right (show t + 1 ≤ a / b by omega) (show 0 ≤ b by omega)
    rw [Int.add_mul] at this
    have h5 := Int.emod_nonneg a (b := b) (by omega)
    omega
/-- Windows have room, one behind the other. -/
theorem win_room {E L i : Int} (hE : 1 ≤ E) (hEL : E ≤ L) (hi : 1 ≤ i) : (i - 1) * L / E < upF (i * L) E ∧ upF ((i - 1) * L) E < upF (i * L) E := by
  have a0 : 0 ≤ (i - 1) * L := Int.mul_nonneg (by omega) (by omega)
  have a1 : 0 ≤ i * L := Int.mul_nonneg (by omega) (by omega)
  obtain ⟨r1, r2, r3, r4, r5⟩ := upF_range a0 hE
  obtain ⟨q1, q2, q3, q4, q5⟩ := upF_range a1 hE
  have e1 : i * L = (i - 1) * L + L := by rw [Int.sub_mul]; omega
  have key : ∀ x, x * E < (i - 1) * L + E → x < upF (i * L) E := fun x hx => by
    have : x * E < upF (i * L) E * E := by omega
    exact Int.lt_of_mul_lt_mul_right this (by omega)
  constructor
  · refine key _ ?_
    have := Int.ediv_mul_le ((i - 1) * L) (show E ≠ 0 by omega)
    omega
  · refine key _ ?_
    have : upF ((i - 1) * L) E - 1 < upF ((i - 1) * L) E := by omega
    have := ceil_lt a0 hE this
    rw [Int.sub_mul] at this
    omega
theorem Meets.missed {ps : List (Int × Int)} {E L i last : Int} {S : Sup} (h : WW ps E L) (hm : Meets ps E L i last S) (hi : 1 ≤ i) {t : Int} (h1 : last + 1 ≤ t) (h2 : t < upF (i * L) E) : sumL (dm t) S.ps ≤ 0 := by
  have hL := h.L1
  have h3 := hm.due t h1
  have h4 := ceil_lt (Int.mul_nonneg (by omega) (by omega)) h.E1 h2
  have h5 : t * E / L < i := Int.ediv_lt_of_lt_mul (by omega) h4
  omega
theorem Meets.step {ps : List (Int × Int)} {E L i last : Int} {S : Sup} (h : WW ps E L) (hm : Meets ps E L i last S) (hi : 1 ≤ i) {a : Int} (h1 : last + 1 ≤ a) (h2 : (i - 1) * L / E ≤ a) (h3 : a < upF (i * L) E) (h4 : a < 200) :
    Meets ps E L (i + 1) a (grantF S a).1 := by
  have hL := h.L1
  have hE := h.E1
  have hEL := h.EL
  have hs := hm.slast
  have hl0 := hm.l0
  obtain ⟨a1, a2, a3, a4, a5, a6, a7, a8⟩ := grant_inv hm.fit.inv hm.base a (by omega) (by omega)
  have hf := hm.fit.grant (u := a) (by omega) (by omega) (by omega)
  refine ⟨⟨hf.inv, hf.b0, hf.b1, fun p hp => by have := hf.rel p hp; omega, hf.s0, hf.i0, by have := hf.si; omega⟩, a2, by rw [a4]; exact hm.len, by omega, by omega, by rw [show i + 1 - 1 = i from by omega]; exact h3, h4, fun d hd => ?_, ?_⟩
  · have hg := grant_dm hm.fit.inv hm.base a d (by omega) (by omega) hd
    have hdd := hm.due d (by omega)
    rw [show i + 1 - 1 = i from by omega]
    rcases hg.2 with ⟨g1, g2⟩ | g
    · omega
    · have hx : 0 ≤ d - (a + 1) := by omega
      have hdem := h.dem hx
      have b0 : 0 ≤ (i - 1) * L := Int.mul_nonneg (by omega) (by omega)
      have hwin : (i - 1) * L < (a + 1) * E := by
        have e1 := Int.mul_ediv_add_emod ((i - 1) * L) E
        have e2 := Int.emod_lt_of_pos ((i - 1) * L) (show 0 < E by omega)
        have e3 := Int.mul_le_mul_of_nonneg_right h2 (show 0 ≤ E by omega)
        rw [Int.mul_comm] at e1
        rw [Int.add_mul]; omega
      rcases h.much with e | ⟨m, m1, m2, m3, m4⟩
      · -- weight 1
        have hone := h.one (by rw [demB_small (Int.le_refl 0) h.parts (fun p hp => by have := (h.parts p hp).1; have := (h.parts p hp).2.1; omega)]; omega) _ hx
        subst e
        have e1 : d * E / E = d := Int.mul_ediv_cancel _ (by omega)
        have e2 : i - 1 < a + 1 := Int.lt_of_mul_lt_mul_right hwin (by omega)
        rw [e1]; omega
      · by_cases hxm : d - (a + 1) < m
        · rw [demB_small hx h.parts (fun p hp => by have := m2 p hp; omega)] at g
          omega
        · have c1 : m * (L / m) = L := Int.mul_ediv_cancel' m3
          have c0 : 0 ≤ L / m := Int.ediv_nonneg (by omega) (by omega)
          have c2 : m * (L / m) ≤ (d - (a + 1)) * (L / m) := Int.mul_le_mul_of_nonneg_right (by omega) c0
          have c3 : d * E = (a + 1) * E + ((d - (a + 1)) * (L / m) + (d - (a + 1)) * sumS L ps) := by
            rw [← Int.mul_add, ← m4, ← Int.add_mul]
            congr 1; omega
          have c4 : (demB (d - (a + 1)) ps + i) * L ≤ d * E := by
            have c5 : i * L = (i - 1) * L + L := by rw [Int.sub_mul]; omega
            rw [Int.add_mul]; omega
          have c6 : demB (d - (a + 1)) ps + i ≤ d * E / L := (Int.le_ediv_iff_mul_le (by omega)).2 c4
          omega
  · have g1 := hm.missed h hi h1 h3
    have g2 := grant_dm_le hm.fit.inv a a (by omega) (by omega)
    exact missedF_zero a1 (by omega)
end Go.Proofs.Try
