/- A separation-style assertion over the model's worlds, and facts on a frame's slots: words for the contracts of this seat. -/
import Derived.Still
import Derived.Deep.Draws
import Derived.Below
import Derived.KernelRfl
import Derived.Tactics
set_option linter.all false
namespace Go.Sep
open Go

abbrev Heap := Nat → Option Obj
abbrev HP := Heap → Prop

/-- h is the disjoint union of h1 and h2. -/
def Split (h h1 h2 : Heap) : Prop := ∀ b, (h1 b = none ∧ h2 b = h b) ∨ (h2 b = none ∧ h1 b = h b)

theorem Split.comm {h h1 h2 : Heap} (s : Split h h1 h2) : Split h h2 h1 := fun b => (s b).symm
theorem Split.left {h h1 h2 : Heap} (s : Split h h1 h2) {b : Nat} {o : Obj} (e : h1 b = some o) : h b = some o := by
  rcases s b with ⟨a, _⟩ | ⟨_, a⟩
  · rw [a] at e; cases e
  · rw [← a, e]
theorem Split.right {h h1 h2 : Heap} (s : Split h h1 h2) {b : Nat} {o : Obj} (e : h2 b = some o) : h b = some o := s.comm.left e
theorem Split.not_right {h h1 h2 : Heap} (s : Split h h1 h2) {b : Nat} {o : Obj} (e : h1 b = some o) : h2 b = none := by
  rcases s b with ⟨a, _⟩ | ⟨a, _⟩
  · rw [a] at e; cases e
  · exact a
theorem Split.not_left {h h1 h2 : Heap} (s : Split h h1 h2) {b : Nat} {o : Obj} (e : h2 b = some o) : h1 b = none := s.comm.not_right e
def join (h1 h2 : Heap) : Heap := fun b => match h1 b with | some o => some o | none => h2 b
theorem Split.swap {h h1 h2 h3 h4 : Heap} (s : Split h h1 h2) (t : Split h2 h3 h4) : Split h h3 (join h1 h4) ∧ Split (join h1 h4) h1 h4 := by
  constructor
  · intro b
    unfold join
    rcases s b with ⟨a, a'⟩ | ⟨a, a'⟩ <;> rcases t b with ⟨c, c'⟩ | ⟨c, c'⟩
    · exact .inl ⟨c, by rw [a]; simp only; rw [c', a']⟩
    · exact .inr ⟨by rw [a]; exact c, by rw [c', a']⟩
    · refine .inl ⟨c, ?_⟩
      rw [a'] ; cases hb : h b with
      | none => simp only; rw [c', a]
      | some o => rfl
    · cases hb : h1 b with
      | none => exact .inr ⟨by simp only; exact c, by rw [c', a, ← a', hb]⟩
      | some o => exact .inl ⟨by rw [c', a], by simp only; rw [← a', hb]⟩
  · intro b
    unfold join
    cases hb : h1 b with
    | none => exact .inl ⟨rfl, rfl⟩
    | some o =>
      refine .inr ⟨?_, rfl⟩
      have h0 := s.not_right hb
      rcases t b with ⟨_, c'⟩ | ⟨c, _⟩
      · rw [c', h0]
      · exact c

/-- The parts of a list hold of disjoint parts of the heap. -/
def sat : List HP → Heap → Prop
  | [], _ => True
  | p :: C, h => ∃ h1 h2, Split h h1 h2 ∧ p h1 ∧ sat C h2

theorem sat_swap {p q : HP} {C : List HP} {h : Heap} (s : sat (p :: q :: C) h) : sat (q :: p :: C) h := by
  obtain ⟨h1, h2, s1, hp, h3, h4, s2, hq, hC⟩ := s
  obtain ⟨a, b⟩ := s1.swap s2
  exact ⟨h3, join h1 h4, a, hq, h1, h4, b, hp, hC⟩
theorem sat_perm {C D : List HP} (e : C.Perm D) : ∀ {h : Heap}, sat C h → sat D h := by
  induction e with
  | nil => exact fun s => s
  | cons p _ ih => exact fun ⟨h1, h2, s, hp, hC⟩ => ⟨h1, h2, s, hp, ih hC⟩
  | swap p q C => exact fun s => sat_swap s
  | trans _ _ ih1 ih2 => exact fun s => ih2 (ih1 s)
theorem sat_more {C : List HP} : ∀ {h h' : Heap}, (∀ b o, h b = some o → h' b = some o) → sat C h → sat C h' := by
  induction C with
  | nil => intros; trivial
  | cons p C ih =>
    rintro h h' hle ⟨h1, h2, s, hp, hC⟩
    refine ⟨h1, fun b => match h1 b with | some _ => none | none => h' b, ?_, hp, ih ?_ hC⟩
    · intro b
      cases hb : h1 b with
      | none => exact .inl ⟨rfl, by simp [hb]⟩
      | some o => exact .inr ⟨by simp [hb], (hle b o (s.left hb)).symm⟩
    · intro b o ho
      have := s.not_left ho
      simp only [this]
      exact hle b o (s.right ho)
theorem sat_tail {p : HP} {C : List HP} {h : Heap} (s : sat (p :: C) h) : sat C h :=
  let ⟨_, _, t, _, hC⟩ := s
  sat_more (fun _ _ e => t.right e) hC

/-- What a contract keeps: the streams, the tape, the blocks that nobody writes. -/
structure K where
  os : Os
  tape : Nat → Question → Nat
  output : Array (Nat × ByteArray)
  imm : Heap

def K.mh (κ : K) (w : World) : Heap := fun b => match κ.imm b with | some _ => none | none => w.heap[b]?

structure Hp (κ : K) (w : World) (C : List HP) : Prop where
  os : w.os = κ.os
  tape : w.tape = κ.tape
  output : w.output = κ.output
  imm : ∀ b o, κ.imm b = some o → w.heap[b]? = some o
  sat : sat C (κ.mh w)

/-- A block. -/
def pt (b : Nat) (o : Obj) : HP := fun h => h b = some o
def ex {α : Type} (P : α → HP) : HP := fun h => ∃ x, P x h
def star (p q : HP) : HP := fun h => ∃ h1 h2, Split h h1 h2 ∧ p h1 ∧ q h2
def pure (φ : Prop) : HP := fun _ => φ

section
variable {κ : K} {w : World} {C D : List HP}
theorem Hp.perm (h : Hp κ w C) (e : C.Perm D) : Hp κ w D := ⟨h.os, h.tape, h.output, h.imm, sat_perm e h.sat⟩
theorem Hp.tail {p : HP} (h : Hp κ w (p :: C)) : Hp κ w C := ⟨h.os, h.tape, h.output, h.imm, sat_tail h.sat⟩
theorem Hp.nil (h : Hp κ w C) : Hp κ w [] := ⟨h.os, h.tape, h.output, h.imm, trivial⟩
theorem perm_focus {α : Type} : ∀ (i : Nat) (C : List α) {p : α}, C[i]? = some p → C.Perm (p :: C.eraseIdx i)
  | _, [], p, h => by simp at h
  | 0, x :: C, p, h => by simp at h; subst h; exact List.Perm.refl _
  | i + 1, x :: C, p, h => by
    simp only [List.getElem?_cons_succ] at h
    simp only [List.eraseIdx_cons_succ]
    exact ((perm_focus i C h).cons x).trans (List.Perm.swap p x _)
/-- Chunk number i to the front. -/
theorem Hp.focus (i : Nat) {p : HP} (h : Hp κ w C) (e : C[i]? = some p) : Hp κ w (p :: C.eraseIdx i) := h.perm (perm_focus i C e)
theorem Hp.swap {p q : HP} (h : Hp κ w (p :: q :: C)) : Hp κ w (q :: p :: C) := h.perm (List.Perm.swap q p C)
theorem Hp.ptr {b : Nat} {o : Obj} (h : Hp κ w (pt b o :: C)) : w.heap[b]? = some o := by
  obtain ⟨h1, h2, s, hp, _⟩ := h.sat
  have := s.left (show h1 b = some o from hp)
  unfold K.mh at this
  split at this
  · cases this
  · exact this
theorem Hp.fresh {b : Nat} {o : Obj} (h : Hp κ w (pt b o :: C)) : κ.imm b = none := by
  obtain ⟨h1, h2, s, hp, _⟩ := h.sat
  have := s.left (show h1 b = some o from hp)
  unfold K.mh at this
  split at this
  · cases this
  · assumption
theorem Hp.ne {b b' : Nat} {o o' : Obj} (h : Hp κ w (pt b o :: pt b' o' :: C)) : b ≠ b' := by
  obtain ⟨h1, h2, s, hp, h3, h4, t, hq, _⟩ := h.sat
  intro e
  subst e
  have h0 := s.not_right (show h1 b = some o from hp)
  have := t.left (show h3 b = some o' from hq)
  rw [h0] at this; cases this
theorem Hp.lt {b : Nat} {o : Obj} (h : Hp κ w (pt b o :: C)) : b < w.heap.size := by
  have := h.ptr
  rcases Nat.lt_or_ge b w.heap.size with g | g
  · exact g
  · rw [Array.getElem?_eq_none g] at this; cases this
theorem Hp.ex_elim {α : Type} {P : α → HP} (h : Hp κ w (ex P :: C)) : ∃ x, Hp κ w (P x :: C) := by
  obtain ⟨h1, h2, s, ⟨x, hp⟩, hC⟩ := h.sat
  exact ⟨x, h.os, h.tape, h.output, h.imm, h1, h2, s, hp, hC⟩
theorem Hp.ex_intro {α : Type} {P : α → HP} (x : α) (h : Hp κ w (P x :: C)) : Hp κ w (ex P :: C) := by
  obtain ⟨h1, h2, s, hp, hC⟩ := h.sat
  exact ⟨h.os, h.tape, h.output, h.imm, h1, h2, s, ⟨x, hp⟩, hC⟩
theorem Hp.pure_elim {φ : Prop} (h : Hp κ w (pure φ :: C)) : φ := by
  obtain ⟨h1, h2, s, hp, hC⟩ := h.sat
  exact hp
theorem Hp.pure_intro {φ : Prop} (hφ : φ) (h : Hp κ w C) : Hp κ w (pure φ :: C) :=
  ⟨h.os, h.tape, h.output, h.imm, fun _ => none, κ.mh w, fun _ => .inl ⟨rfl, rfl⟩, hφ, h.sat⟩
theorem Hp.star_elim {p q : HP} (h : Hp κ w (star p q :: C)) : Hp κ w (p :: q :: C) := by
  obtain ⟨h1, h2, s, ⟨h3, h4, t, hp, hq⟩, hC⟩ := h.sat
  -- h = (h3 ⊎ h4) ⊎ h2
  have s' := s.comm
  obtain ⟨a, b⟩ := s'.swap t
  obtain ⟨c, d⟩ := s'.swap t.comm
  refine ⟨h.os, h.tape, h.output, h.imm, h3, join h2 h4, a, hp, h4, h2, b.comm, hq, hC⟩
theorem Hp.star_intro {p q : HP} (h : Hp κ w (p :: q :: C)) : Hp κ w (star p q :: C) := by
  obtain ⟨h1, h2, s, hp, h3, h4, t, hq, hC⟩ := h.sat
  refine ⟨h.os, h.tape, h.output, h.imm, join h1 h3, h4, ?_, ⟨h1, h3, ?_, hp, hq⟩, hC⟩
  · exact ((s.swap t.comm).1).comm
  · exact (s.swap t.comm).2
/-- The world's blocks that are owned may turn: block b. -/
theorem Hp.set {b : Nat} {o o' : Obj} {w' : World} (h : Hp κ w (pt b o :: C)) (e1 : w'.os = w.os) (e2 : w'.tape = w.tape) (e3 : w'.output = w.output)
    (hb : w'.heap[b]? = some o') (hne : ∀ i, i ≠ b → w'.heap[i]? = w.heap[i]?) : Hp κ w' (pt b o' :: C) := by
  have hf := h.fresh
  obtain ⟨h1, h2, s, hp, hC⟩ := h.sat
  refine ⟨e1.trans h.os, e2.trans h.tape, e3.trans h.output, fun i x hx => ?_, fun i => if i = b then some o' else h1 i, h2, fun i => ?_, by simp [pt], hC⟩
  · rw [hne i (fun e => by subst e; rw [hf] at hx; cases hx)]; exact h.imm i x hx
  · by_cases hi : i = b
    · subst hi
      right
      refine ⟨s.not_right (show h1 i = some o from hp), ?_⟩
      simp [K.mh, hf, hb]
    · have hm : κ.mh w' i = κ.mh w i := by simp only [K.mh]; rw [hne i hi]
      simp only [if_neg hi, hm]; exact s i
theorem Hp.alloc (h : Hp κ w C) (o : Obj) : Hp κ (w.alloc o) (pt w.heap.size o :: C) := by
  have h0 : κ.imm w.heap.size = none := by
    cases hx : κ.imm w.heap.size with
    | none => rfl
    | some x => have := h.imm _ _ hx; simp at this
  have hnew : (w.alloc o).heap[w.heap.size]? = some o := by show (w.heap.push o)[w.heap.size]? = some o; simp
  have hold : ∀ i, i ≠ w.heap.size → (w.alloc o).heap[i]? = w.heap[i]? := fun i hi => by
    show (w.heap.push o)[i]? = _
    rw [Array.getElem?_push, if_neg hi]
  refine ⟨h.os, h.tape, h.output, fun i x hx => ?_, fun i => if i = w.heap.size then some o else none, κ.mh w, fun i => ?_, by simp [pt], h.sat⟩
  · rw [hold i (fun e => by subst e; rw [h0] at hx; cases hx)]; exact h.imm i x hx
  · by_cases hi : i = w.heap.size
    · subst hi
      right
      refine ⟨by simp [K.mh, h0], ?_⟩
      simp only [if_true, K.mh, h0, hnew]
    · left
      have hm : κ.mh (w.alloc o) i = κ.mh w i := by simp only [K.mh]; rw [hold i hi]
      simp only [if_neg hi, hm]; exact ⟨trivial, trivial⟩
theorem Hp.drewN (h : Hp κ w C) (n : Nat) : Hp κ (w.drewN n) C := ⟨h.os, h.tape, h.output, h.imm, h.sat⟩
theorem Hp.drew (h : Hp κ w C) : Hp κ w.drew C := ⟨h.os, h.tape, h.output, h.imm, h.sat⟩
/-- The same world but for the count of draws. -/
theorem Hp.alike {w' : World} (h : Hp κ w C) (e1 : w'.os = w.os) (e2 : w'.tape = w.tape) (e3 : w'.output = w.output) (e4 : w'.heap = w.heap) : Hp κ w' C :=
  ⟨e1.trans h.os, e2.trans h.tape, e3.trans h.output, fun b o e => by rw [e4]; exact h.imm b o e, by have := h.sat; unfold K.mh at *; rw [e4]; exact this⟩
/-- A block that nobody writes any more. -/
def K.add (κ : K) (b : Nat) (o : Obj) : K := { κ with imm := fun i => if i = b then some o else κ.imm i }
structure K.le (κ κ' : K) : Prop where
  os : κ'.os = κ.os
  tape : κ'.tape = κ.tape
  output : κ'.output = κ.output
  imm : ∀ b o, κ.imm b = some o → κ'.imm b = some o
theorem K.le.refl (κ : K) : κ.le κ := ⟨rfl, rfl, rfl, fun _ _ h => h⟩
theorem K.le.trans {κ1 κ2 κ3 : K} (h : κ1.le κ2) (k : κ2.le κ3) : κ1.le κ3 :=
  ⟨k.os.trans h.os, k.tape.trans h.tape, k.output.trans h.output, fun b o e => k.imm b o (h.imm b o e)⟩
theorem Hp.freeze' {b : Nat} {o : Obj} (h : Hp κ w (pt b o :: C)) : κ.le (κ.add b o) ∧ Hp (κ.add b o) w C ∧ (κ.add b o).imm b = some o := by
  have hf := h.fresh
  have hb := h.ptr
  obtain ⟨h1, h2, s, hp, hC⟩ := h.sat
  refine ⟨⟨rfl, rfl, rfl, fun i x hx => ?_⟩, ⟨h.os, h.tape, h.output, fun i x hx => ?_, sat_more (fun i x hx => ?_) hC⟩, by simp [K.add]⟩
  · show (if i = b then some o else κ.imm i) = some x
    by_cases hi : i = b
    · subst hi; rw [hf] at hx; cases hx
    · rw [if_neg hi]; exact hx
  · have hx' : (if i = b then some o else κ.imm i) = some x := hx
    by_cases hi : i = b
    · subst hi; rw [if_pos rfl] at hx'; rw [← hx']; exact hb
    · rw [if_neg hi] at hx'; exact h.imm i x hx'
  · have h2x := s.right hx
    have hi : i ≠ b := fun e => by
      subst e
      have := s.not_right (show h1 i = some o from hp)
      rw [this] at hx; cases hx
    simp only [K.mh, K.add, if_neg hi]
    exact h2x
theorem Hp.freeze {b : Nat} {o : Obj} (h : Hp κ w (pt b o :: C)) : ∃ κ', κ.le κ' ∧ Hp κ' w C ∧ κ'.imm b = some o := ⟨_, h.freeze'⟩
/-- Back to fewer blocks that nobody writes. -/
theorem Hp.lower {κ' : K} (h : Hp κ' w C) (l : κ.le κ') : Hp κ w C := by
  refine ⟨h.os.trans l.os, h.tape.trans l.tape, h.output.trans l.output, fun b o e => h.imm b o (l.imm b o e), sat_more (fun b o e => ?_) h.sat⟩
  unfold K.mh at *
  split at e
  · cases e
  · rename_i hn
    cases hx : κ.imm b with
    | none => exact e
    | some x => have := l.imm b x hx; rw [hn] at this; cases this
end
/-- At a law's begin: all that is there is read alone. -/
def K.of (w : World) : K := ⟨w.os, w.tape, w.output, fun b => w.heap[b]?⟩
theorem Hp.begin (w : World) : Hp (K.of w) w [] := ⟨rfl, rfl, rfl, fun _ _ e => e, trivial⟩
theorem Hp.below {w w' : World} {C : List HP} (h : Hp (K.of w) w' C) : Go.RowKit.Below w.heap.size w w' := by
  refine ⟨h.os, h.tape, h.output, ?_, fun k hk => ?_⟩
  · rcases Nat.lt_or_ge w'.heap.size w.heap.size with g | g
    · have := h.imm w'.heap.size _ (Array.getElem?_eq_getElem g)
      simp at this
    · exact g
  · rw [h.imm k _ (Array.getElem?_eq_getElem hk), Array.getElem?_eq_getElem hk]

/-! ### A frame's slots -/
def lk : List (Nat × Value) → Nat → Option Value
  | [], _ => none
  | (k, v) :: L, s => bif Nat.beq k s then some v else lk L s
def look (L : List (Nat × Value)) : Operand → Option Value
  | .tmp t => lk L t
  | .const v => some v
  | .global g => some (.pointer (some { block := g, off := 0 }))
  | .func f => some (.func (.func f) #[] #[])
structure Fr (n : Nat) (a : Act) (L : List (Nat × Value)) : Prop where
  defers : a.defers = []
  size : a.tmps.size = n
  get : ∀ s v, lk L s = some v → a.tmps[s]? = some v
section
variable {n : Nat} {a : Act} {L L' : List (Nat × Value)}
theorem Fr.eval (h : Fr n a L) {x : Operand} {v : Value} (e : look L x = some v) : a.eval x = v := by
  cases x with
  | tmp t => have := h.get t v e; simp [Act.eval, Array.getD_eq_getD_getElem?, this]
  | const u => simpa [look, Act.eval] using e
  | global g => simpa [look, Act.eval] using e
  | func f => simpa [look, Act.eval] using e
theorem Fr.put (h : Fr n a L) {d : Nat} (hd : Nat.blt d n = true) (v : Value) : Fr n (a.put (some d) v) ((d, v) :: L) := by
  refine ⟨h.defers, by simpa [Act.put] using h.size, fun s u e => ?_⟩
  have hd' : d < a.tmps.size := by rw [h.size]; exact Nat.le_of_ble_eq_true hd
  simp only [Act.put, Array.getElem?_setIfInBounds]
  simp only [lk] at e
  by_cases hs : d = s
  · subst hs
    have : Nat.beq d d = true := Nat.beq_refl d
    rw [this] at e
    simp only [cond_true, Option.some.injEq] at e
    simp [hd', e]
  · have : Nat.beq d s = false := by
      cases hb : Nat.beq d s with
      | false => rfl
      | true => exact absurd (Nat.eq_of_beq_eq_true hb) hs
    rw [this] at e
    rw [if_neg hs]; exact h.get s u e
theorem Fr.put0 (h : Fr n a L) (v : Value) : Fr n (a.put none v) L := h
theorem Fr.sub (h : Fr n a L) (e : ∀ p ∈ L', lk L p.1 = some p.2) : Fr n a L' := by
  refine ⟨h.defers, h.size, fun s v hv => h.get s v ?_⟩
  induction L' with
  | nil => cases hv
  | cons p L' ih =>
    simp only [lk] at hv
    cases hb : Nat.beq p.1 s with
    | true =>
      rw [hb] at hv
      simp only [cond_true, Option.some.injEq] at hv
      have h1 := e p (List.mem_cons_self ..)
      rw [Nat.eq_of_beq_eq_true hb, hv] at h1; exact h1
    | false =>
      rw [hb] at hv
      exact ih (fun q hq => e q (List.mem_cons_of_mem _ hq)) hv
theorem Fr.nil (h : Fr n a L) : Fr n a [] := ⟨h.defers, h.size, fun _ _ e => by cases e⟩
end
end Go.Sep
