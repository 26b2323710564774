/- Contracts of the supertask's functions: its weight. -/
import Derived.Test.YtfapcagleghlaaaRb
set_option linter.all false
namespace Go.Proofs.Try
open Go Go.Sep

theorem lcmF_spec : ∀ (ns : List Int) (m : Int), 1 ≤ m → (∀ n ∈ ns, 1 ≤ n) → m ∣ lcmF m ns ∧ (∀ n ∈ ns, n ∣ lcmF m ns) ∧ 1 ≤ lcmF m ns := by
  intro ns
  induction ns with
  | nil => intro m hm _; exact ⟨Int.dvd_refl _, fun n h => (by cases h), hm⟩
  | cons n ns ih =>
    intro m hm hn
    have h1 := hn n (List.mem_cons_self ..)
    have hs := lcm_step hm h1
    have hg := gcd_pos' (m := m) h1
    obtain ⟨i1, i2, i3⟩ := ih _ hs.2.2 (fun q hq => hn q (List.mem_cons_of_mem _ hq))
    simp only [lcmF]
    have hd1 : n ∣ m / (Int.gcd m n : Int) * n := ⟨m / (Int.gcd m n : Int), Int.mul_comm _ _⟩
    have hd2 : m ∣ m / (Int.gcd m n : Int) * n := by
      obtain ⟨a, ha⟩ := Int.gcd_dvd_left m n
      obtain ⟨b, hb⟩ := Int.gcd_dvd_right m n
      generalize (Int.gcd m n : Int) = g at *
      have e : m / g = a := by rw [ha]; exact Int.mul_ediv_cancel_left _ (by omega)
      rw [e]
      exact ⟨b, by rw [hb, ha, ← Int.mul_assoc, Int.mul_comm a g]⟩
    refine ⟨Int.dvd_trans hd2 i1, fun q hq => ?_, i3⟩
    rcases List.mem_cons.1 hq with rfl | hq
    · exact Int.dvd_trans hd1 i1
    · exact i2 q hq
theorem lcmOk_of : ∀ (ns : List Int) (m : Int) (k : Nat), 1 ≤ m → m ≤ 24 ^ k → (∀ n ∈ ns, 1 ≤ n ∧ n ≤ 24) → k + ns.length ≤ 8 → LcmOk m ns ∧ lcmF m ns ≤ 24 ^ (k + ns.length) := by
  intro ns
  induction ns with
  | nil => intro m k _ h _ _; exact ⟨trivial, h⟩
  | cons n ns ih =>
    intro m k hm hk hn hl
    have h1 := hn n (List.mem_cons_self ..)
    have hs := lcm_step hm h1.1
    have hb : m / (Int.gcd m n : Int) * n ≤ 24 ^ (k + 1) := by
      rw [Int.pow_succ]
      exact Int.mul_le_mul (Int.le_trans hs.2.1 hk) h1.2 (by omega) (Int.le_of_lt (Int.pow_pos (by decide)))
    simp only [List.length_cons] at hl
    obtain ⟨i1, i2⟩ := ih _ (k + 1) hs.2.2 hb (fun q hq => hn q (List.mem_cons_of_mem _ hq)) (by omega)
    have hp : (24 : Int) ^ (k + 1) ≤ 24 ^ 8 := by
      have := Nat.pow_le_pow_right (n := 24) (by decide) (show k + 1 ≤ 8 by omega)
      rw [show (24 : Int) = ((24 : Nat) : Int) from rfl, ← Int.natCast_pow, ← Int.natCast_pow]; omega
    refine ⟨⟨h1.1, by omega, Int.le_trans hb (Int.le_trans hp (by decide)), i1⟩, ?_⟩
    simp only [lcmF, List.length_cons]
    rw [show k + (ns.length + 1) = k + 1 + ns.length from by omega]; exact i2
def perF (ps : List (Int × Int)) : Int := lcmF 1 (ps.map (·.2))
def minP : List (Int × Int) → Int
  | [] => 1
  | p :: ps => minF p.2 (ps.map (·.2))
def weightF (ps : List (Int × Int)) : Int × Int × Int :=
  if ps = [] then (0, 0, 1) else if 1048576 < perF ps then (0, 0, 16) else if perF ps < sumS (perF ps) ps then (0, 0, 18) else (min (perF ps / minP ps + sumS (perF ps) ps) (perF ps), perF ps, 0)
theorem perF_spec {ps : List (Int × Int)} (hp : ∀ p ∈ ps, POk p) : 1 ≤ perF ps ∧ ∀ p ∈ ps, p.2 ∣ perF ps := by
  have h := lcmF_spec (ps.map (·.2)) 1 (by omega) (fun n hn => by
    obtain ⟨p, hp', rfl⟩ := List.mem_map.1 hn
    have := hp p hp'
    have h1 := this.1
    have h2 := this.2.1
    omega)
  exact ⟨h.2.2, fun p hp' => h.2.1 _ (List.mem_map_of_mem hp')⟩
theorem minF_spec : ∀ (ns : List Int) (m : Int), (∀ n ∈ ns, minF m ns ≤ n) ∧ minF m ns ≤ m ∧ (minF m ns = m ∨ minF m ns ∈ ns) := by
  intro ns
  induction ns with
  | nil => intro m; exact ⟨fun n h => (by cases h), Int.le_refl _, .inl rfl⟩
  | cons n ns ih =>
    intro m
    obtain ⟨h1, h2, h3⟩ := ih (min m n)
    simp only [minF]
    refine ⟨fun q hq => ?_, by omega, ?_⟩
    · rcases List.mem_cons.1 hq with rfl | hq
      · omega
      · exact h1 q hq
    · rcases h3 with h3 | h3
      · rw [h3]
        by_cases h : m ≤ n
        · left; omega
        · right; rw [show min m n = n from by omega]; exact List.mem_cons_self ..
      · exact .inr (List.mem_cons_of_mem _ h3)
theorem minP_spec {ps : List (Int × Int)} (hp : ∀ p ∈ ps, POk p) (h0 : ps ≠ []) : (∀ p ∈ ps, minP ps ≤ p.2) ∧ ∃ p ∈ ps, minP ps = p.2 := by
  cases ps with
  | nil => exact absurd rfl h0
  | cons p ps =>
    obtain ⟨h1, h2, h3⟩ := minF_spec (ps.map (·.2)) p.2
    simp only [minP]
    refine ⟨fun q hq => ?_, ?_⟩
    · rcases List.mem_cons.1 hq with rfl | hq
      · exact h2
      · exact h1 _ (List.mem_map_of_mem hq)
    · rcases h3 with h3 | h3
      · exact ⟨p, List.mem_cons_self .., h3⟩
      · obtain ⟨q, hq, h⟩ := List.mem_map.1 h3
        exact ⟨q, List.mem_cons_of_mem _ hq, h.symm⟩
theorem sumS_split (L : Int) : ∀ (ps : List (Int × Int)) (i : Nat), sumS L (ps.take i) + sumS L (ps.drop i) = sumS L ps := by
  intro ps
  induction ps with
  | nil => intro i; simp [sumS]
  | cons p ps ih => intro i; cases i with
    | zero => simp [sumS]
    | succ i => simp only [List.take_succ_cons, List.drop_succ_cons, sumS]; have := ih i; omega
theorem sumS_range {L : Int} (h0 : 0 ≤ L) (h1 : L ≤ 1048576) : ∀ (ps : List (Int × Int)), (∀ p ∈ ps, POk p) → 0 ≤ sumS L ps ∧ sumS L ps ≤ 25165824 * ps.length := by
  intro ps
  induction ps with
  | nil => intro _; simp [sumS]
  | cons p ps ih =>
    intro h
    obtain ⟨a1, a2⟩ := ih fun q hq => h q (List.mem_cons_of_mem _ hq)
    obtain ⟨b1, b2, b3⟩ := h p (List.mem_cons_self ..)
    have c1 : 0 ≤ L / p.2 := Int.ediv_nonneg h0 (by omega)
    have c2 : L / p.2 ≤ L := Int.ediv_le_self _ h0
    have c3 : p.1 * (L / p.2) ≤ 24 * 1048576 := Int.mul_le_mul (by omega) (by omega) c1 (by omega)
    have c4 : 0 ≤ p.1 * (L / p.2) := Int.mul_nonneg (by omega) c1
    simp only [sumS, List.length_cons]
    omega
end Go.Proofs.Try
