/- A law's arguments, opened: slices that are read. -/
import Derived.WalkKit
import Derived.ProofKit
import Derived.OpenShut
import Derived.Deep.Slices
import Derived.Test.YtfapcagleghlaaaSepI
set_option linter.all false
namespace Go.Sep
open Go Go.Deep Go.ChangeShapes Go.WideShapes Go.ChangeAt Go.RowKit

theorem flatMap_inv {α : Type} {sz : Nat} {enc : α → List Value} : ∀ {xs : List α}, (∀ x ∈ xs, (enc x).length = sz) → ∀ {q : Nat} {v : Value}, (xs.flatMap enc)[q]? = some v → ∃ i, ∃ h : i < xs.length, ∃ j, q = i * sz + j ∧ (enc xs[i])[j]? = some v
  | [], _, q, v, h => by simp at h
  | x :: xs, he, q, v, h => by
    have hx := he x (List.mem_cons_self ..)
    rw [List.flatMap_cons] at h
    by_cases hq : q < sz
    · rw [List.getElem?_append_left (by omega)] at h
      exact ⟨0, by simp, q, by omega, h⟩
    · rw [List.getElem?_append_right (by omega)] at h
      obtain ⟨i, hi, j, e, h2⟩ := flatMap_inv (fun y hy => he y (List.mem_cons_of_mem _ hy)) h
      refine ⟨i + 1, by simpa using hi, j, by rw [Nat.succ_mul]; omega, by simpa using h2⟩
theorem Rd.of_cells {α : Type} {W : World} {X : List HP} {sz : Nat} {enc : α → List Value} {xs : List α} {b off cap : Nat} (he : ∀ x ∈ xs, (enc x).length = sz) (hs : 0 < sz) (hc : xs.length ≤ cap)
    (h : ∀ i (hi : i < xs.length) j u, (enc xs[i])[j]? = some u → W.cell? ⟨b, off + (i * sz + j), none⟩ = some u) : Rd (K.of W) X sz enc (.slice (some ⟨b, off, none⟩) xs.length cap) xs := by
  by_cases h0 : xs.length = 0
  · have e0 := List.eq_nil_of_length_eq_zero h0
    subst e0
    exact .inl ⟨⟨_, _, rfl⟩, rfl⟩
  · refine .inr ⟨b, off, cap, rfl, hc, fun κ' w l hH => ?_⟩
    have h1 : 0 < xs.length := by omega
    obtain ⟨u, hu⟩ : ∃ u, (enc xs[0])[0]? = some u := by
      have := he xs[0] (List.getElem_mem h1)
      exact ⟨_, List.getElem?_eq_getElem (by omega)⟩
    have hcell := h 0 h1 0 u hu
    obtain ⟨cs, t, fr, hb⟩ : ∃ cs t fr, W.heap[b]? = some (.cells cs t fr) := by
      unfold World.cell? at hcell
      split at hcell
      · rename_i hb; exact ⟨_, _, _, hb⟩
      · cases hcell
    refine ⟨cs, t, fr, hH.imm _ _ (l.imm _ _ hb), fun q v hv => ?_⟩
    obtain ⟨i, hi, j, e, h2⟩ := flatMap_inv he hv
    have := h i hi j v h2
    rw [← e] at this
    simpa [World.cell?, hb] using this
def InI (n : Int) : Prop := -9223372036854775808 ≤ n ∧ n ≤ 9223372036854775807
theorem wf_in {n : Int} (h : (Lit.int .i64 n).wf = true) : InI n := by
  simp only [Lit.wf, Bool.and_eq_true, decide_eq_true_eq] at h
  simpa [IntKind.min, IntKind.max, IntKind.signed, IntKind.bits, InI] using h
section
variable {P : Program} {H : Type} {enc : TypeId × Value → H} {W : World} {t e : TypeId} {v : Value} {d : DataW H} {p : List MemPlace} {a : Option Addr} {len cap : Nat}
theorem arg_ints (ht : P.underlying t = some (.slice e)) (he : P.underlying e = some (.int .i64)) (hc : P.cellsOf e = 1) (h : DataW.Trod enc P W 0 (fun _ => true) true t (.slice a len cap) d p) :
    ∃ xs : List Int, Rd (K.of W) [] 1 (fun n => [Value.int .i64 n]) (.slice a len cap) xs ∧ (∀ x ∈ xs, InI x) ∧ xs.length ≤ maxLen := by
  obtain ⟨fuel, hf⟩ := h
  rcases open_ints ht he hc hf with ⟨hcs, _⟩ | ⟨x, l, c, zs, hcs, _, hl, hm, hz, _, hcell, hwz⟩
  · simp [Value.cells] at hcs
    obtain ⟨rfl, rfl, rfl⟩ := hcs
    exact ⟨[], Rd.nil, fun x hx => by (cases hx), Nat.zero_le _⟩
  · simp [Value.cells] at hcs
    obtain ⟨rfl, rfl, rfl⟩ := hcs
    have hz : zs.length = cap := by simpa using hz
    by_cases h0 : len = 0
    · subst h0
      exact ⟨[], .inl ⟨⟨_, _, rfl⟩, rfl⟩, fun x hx => by (cases hx), Nat.zero_le _⟩
    · obtain ⟨b, off, rfl, hc2⟩ := ints_at hcell (by omega)
      have hlen : (zs.take len).length = len := by rw [List.length_take]; omega
      refine ⟨zs.take len, ?_, fun x hx => wf_in (hwz x (List.mem_of_mem_take hx)), by omega⟩
      have := Rd.of_cells (W := W) (X := []) (sz := 1) (enc := fun n => [Value.int .i64 n]) (xs := zs.take len) (b := b) (off := off) (cap := cap) (fun _ _ => rfl) (by decide) (by omega) (fun i hi j u hu => by
        cases j with
        | zero =>
          simp only [List.getElem?_cons_zero, Option.some.injEq] at hu
          have h3 := hc2 i (by omega)
          rw [Nat.mul_one, Nat.add_zero, h3, ← hu]
          simp
          rw [List.getElem?_eq_getElem (by omega)]; rfl
        | succ j => simp at hu)
      rw [hlen] at this
      exact this
theorem arg_pairs {i : TypeId} (ht : P.underlying t = some (.slice e)) (he : P.underlying e = some (.array 2 i)) (hc : P.cellsOf e = 2) (hi : P.underlying i = some (.int .i64)) (hci : P.cellsOf i = 1) (h : DataW.Trod enc P W 0 (fun _ => true) true t (.slice a len cap) d p) :
    ∃ xs : List (Int × Int), Rd (K.of W) [] 2 (fun q => [Value.int .i64 q.1, Value.int .i64 q.2]) (.slice a len cap) xs ∧ (∀ x ∈ xs, InI x.1 ∧ InI x.2) ∧ xs.length ≤ maxLen := by
  obtain ⟨fuel, hf⟩ := h
  rcases open_slice ht hf with ⟨hcs, _⟩ | ⟨x, l, c, m, n, D, Pl, hcs, _, hl, hm, hmm, _, hx⟩
  · simp [Value.cells] at hcs
    obtain ⟨rfl, rfl, rfl⟩ := hcs
    exact ⟨[], Rd.nil, fun x hx => by (cases hx), Nat.zero_le _⟩
  · simp [Value.cells] at hcs
    obtain ⟨rfl, rfl, rfl⟩ := hcs
    have hmm : m = cap := by simpa using hmm
    subst hmm
    by_cases h0 : len = 0
    · subst h0
      exact ⟨[], .inl ⟨⟨_, _, rfl⟩, rfl⟩, fun x hx => by (cases hx), Nat.zero_le _⟩
    · have hex : ∀ j, j < len → ∃ q : Int × Int, W.cell? (x.add (j * 2)) = some (.int .i64 q.1) ∧ W.cell? ((x.add (j * 2)).add 1) = some (.int .i64 q.2) ∧ InI q.1 ∧ InI q.2 := by
        intro j hj
        obtain ⟨cs', h1, h2⟩ := hx j (by omega)
        rw [hc] at h1
        obtain ⟨_, hlen, hcell⟩ := World.cells?_some h1
        obtain ⟨xs, k, _, _, _, hxl, hel⟩ := DataW.trod_array he h2
        match cs', hlen with
        | [c0, c1], _ =>
          have a0 := hel 0 (by decide)
          have a1 := hel 1 (by decide)
          rw [hci] at a0 a1
          simp only [Nat.zero_mul, List.drop_zero, List.take_succ_cons, List.take_zero, Nat.one_mul, List.drop_succ_cons] at a0 a1
          rw [List.getElem?_eq_getElem (by omega)] at a0 a1
          obtain ⟨n0, e0, _, w0⟩ := DataW.trod_int hi a0
          obtain ⟨n1, e1, _, w1⟩ := DataW.trod_int hi a1
          have b0 := hcell 0 (by decide)
          have b1 := hcell 1 (by decide)
          simp at e0 e1
          subst e0; subst e1
          refine ⟨(n0, n1), ?_, by simpa using b1, wf_in w0, wf_in w1⟩
          simpa [Addr.add] using b0
      obtain ⟨V, hV⟩ : ∃ V : Nat → Int × Int, ∀ j, j < len → W.cell? (x.add (j * 2)) = some (.int .i64 (V j).1) ∧ W.cell? ((x.add (j * 2)).add 1) = some (.int .i64 (V j).2) ∧ InI (V j).1 ∧ InI (V j).2 := by
        refine ⟨fun j => if hj : j < len then (hex j hj).choose else (0, 0), fun j hj => ?_⟩
        simp only [dif_pos hj]
        exact (hex j hj).choose_spec
      obtain ⟨b, off, spot⟩ := x
      have hspot : spot = none := by simpa [Addr.add] using World.cell?_spot (hV 0 (by omega)).1
      subst hspot
      refine ⟨(List.range len).map V, ?_, fun q hq => ?_, by simp; omega⟩
      · have := Rd.of_cells (W := W) (X := []) (sz := 2) (enc := fun q : Int × Int => [Value.int .i64 q.1, Value.int .i64 q.2]) (xs := (List.range len).map V) (b := b) (off := off) (cap := m) (fun _ _ => rfl) (by decide) (by simpa using hl) (fun j hj k u hu => by
          have hj' : j < len := by simpa using hj
          obtain ⟨v0, v1, _, _⟩ := hV j hj'
          simp only [List.getElem_map, List.getElem_range] at hu
          rw [add_off] at v0 v1
          rw [add_off] at v1
          match k, hu with
          | 0, hu => simp at hu; rw [← hu, Nat.add_zero]; exact v0
          | 1, hu => simp at hu; rw [← hu, ← Nat.add_assoc]; exact v1)
        simpa using this
      · obtain ⟨j, hj, rfl⟩ := List.mem_map.1 hq
        exact (hV j (by simpa using hj)).2.2
end
end Go.Sep
