/- What a merge of two sorted rows of jobs asks: plain facts. -/
import Derived.Test.YtfapcagleghlaaaYc
set_option linter.all false
namespace Go.Proofs.Try
open Go Go.Sep

theorem leP_refl (p : Prt) : leP p p := by unfold leP; omega
/-- In a sorted row what stands ahead is not greater. -/
theorem srt_get {l : List Prt} (h : Srt l) {i j : Nat} (hi : i < l.length) (hj : j < l.length) (hij : i ≤ j) : leP l[i] l[j] := by
  rcases Nat.lt_or_ge i j with g | g
  · exact (List.pairwise_iff_getElem.1 h) i j hi hj g
  · have : i = j := by omega
    subst this
    exact leP_refl _
theorem mem_take_get {l : List Prt} {u : Nat} {p : Prt} (h : p ∈ l.take u) : ∃ i, ∃ hi : i < l.length, i < u ∧ l[i] = p := by
  obtain ⟨i, hi, rfl⟩ := List.mem_iff_getElem.1 h
  rw [List.length_take] at hi
  exact ⟨i, by omega, by omega, by simp⟩
theorem mem_drop_get {l : List Prt} {u : Nat} {p : Prt} (h : p ∈ l.drop u) : ∃ i, ∃ hi : i < l.length, u ≤ i ∧ l[i] = p := by
  obtain ⟨i, hi, rfl⟩ := List.mem_iff_getElem.1 h
  rw [List.length_drop] at hi
  exact ⟨u + i, by omega, by omega, by simp⟩
/-- Two sorted rows, cut at u and v: what goes left is not greater than what goes right. -/
theorem merge_cross {D B : List Prt} (hD : Srt D) (hB : Srt B) {u v : Nat} (hu : u ≤ D.length) (hv : v ≤ B.length)
    (f1 : ∀ (h1 : u - 1 < D.length) (h2 : v < B.length), 0 < u → leP D[u - 1] B[v]) (f2 : ∀ (h1 : v - 1 < B.length) (h2 : u < D.length), 0 < v → leP B[v - 1] D[u]) :
    ∀ p ∈ D.take u ++ B.take v, ∀ q ∈ D.drop u ++ B.drop v, leP p q := by
  intro p hp q hq
  rcases List.mem_append.1 hp with hp | hp <;> rcases List.mem_append.1 hq with hq | hq <;>
    obtain ⟨i, hi, hiu, rfl⟩ := mem_take_get hp <;> obtain ⟨j, hj, huj, rfl⟩ := mem_drop_get hq
  · exact srt_get hD hi hj (by omega)
  · exact leP_trans (srt_get hD hi (show u - 1 < D.length by omega) (by omega)) (leP_trans (f1 (by omega) (by omega) (by omega)) (srt_get hB (by omega) hj huj))
  · exact leP_trans (srt_get hB hi (show v - 1 < B.length by omega) (by omega)) (leP_trans (f2 (by omega) (by omega) (by omega)) (srt_get hD (by omega) hj huj))
  · exact srt_get hB hi hj (by omega)
theorem merge_join {D1 D2 B1 B2 S1 S2 : List Prt} (h1 : S1.Perm (D1 ++ B1)) (h2 : S2.Perm (D2 ++ B2)) (s1 : Srt S1) (s2 : Srt S2) (hc : ∀ p ∈ D1 ++ B1, ∀ q ∈ D2 ++ B2, leP p q) :
    (S1 ++ S2).Perm ((D1 ++ D2) ++ (B1 ++ B2)) ∧ Srt (S1 ++ S2) := by
  constructor
  · refine (h1.append h2).trans ?_
    rw [List.append_assoc, List.append_assoc]
    refine List.Perm.append_left D1 ?_
    rw [← List.append_assoc B1, ← List.append_assoc D2 B1]
    exact (List.perm_append_comm).append_right B2
  · exact List.pairwise_append.2 ⟨s1, s2, fun p hp q hq => hc p (h1.mem_iff.1 hp) q (h2.mem_iff.1 hq)⟩
/-- The search's marks: what is ahead of u is not greater than d; what is from v on is not less. -/
theorem ins_at {B : List Prt} (hB : Srt B) {d : Prt} {u : Nat} (h1 : ∀ q ∈ B.take u, leP q d) (h2 : ∀ q ∈ B.drop u, leP d q) : Srt (B.take u ++ d :: B.drop u) ∧ (B.take u ++ d :: B.drop u).Perm (d :: B) := by
  refine ⟨ins_srt (by rw [List.take_append_drop]; exact hB) h1 h2, ?_⟩
  have := List.perm_middle (l₁ := B.take u) (l₂ := B.drop u) (a := d)
  rwa [List.take_append_drop] at this
theorem take_le {B : List Prt} (hB : Srt B) {d : Prt} {h : Nat} (hh : h < B.length) (hd : leP B[h] d) : ∀ q ∈ B.take (h + 1), leP q d := fun q hq => by
  obtain ⟨i, hi, hiu, rfl⟩ := mem_take_get hq
  exact leP_trans (srt_get hB hi hh (by omega)) hd
theorem drop_ge {B : List Prt} (hB : Srt B) {d : Prt} {h : Nat} (hh : h < B.length) (hd : leP d B[h]) : ∀ q ∈ B.drop h, leP d q := fun q hq => by
  obtain ⟨i, hi, hiu, rfl⟩ := mem_drop_get hq
  exact leP_trans hd (srt_get hB hh hi hiu)
end Go.Proofs.Try
