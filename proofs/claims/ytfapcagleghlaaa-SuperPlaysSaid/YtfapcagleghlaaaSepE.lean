/- Regions that draw their order: what only reads is taken first; then what acts, one by one. -/
import Derived.OrdersHeld
import Derived.Deep.RegionHeld3
import Derived.Test.YtfapcagleghlaaaSepD
set_option linter.all false
namespace Go.Sep
open Go

section
variable {P : Program} {ops : Array Oper} {Q : Exit → Act → World → Prop} {S : World → Prop} {brk : List Nat}

/-- Whatever order is picked from here on; 'S' holds behind every operation but those of 'brk'. -/
def wpAnyT (P : Program) (ops : Array Oper) (Q : Exit → Act → World → Prop) (S : World → Prop) (brk : List Nat) : Nat → Array Bool → Act → World → Prop
  | 0, listed, a, w => Region.ready .any ops listed = [] ∧ Q .normal a w
  | fuel + 1, listed, a, w =>
    (Region.ready .any ops listed = [] → Q .normal a w) ∧
    ∀ i ∈ Region.ready .any ops listed, wpOp P ops Q i (fun a' w' => (i ∉ brk → S w → S w') ∧ wpAnyT P ops Q S brk fuel (listed.setIfInBounds i true) a' w') a w
theorem wpAny_of_T : ∀ (fuel : Nat) (listed : Array Bool) (a : Act) (w : World), wpAnyT P ops Q S brk fuel listed a w → wpAny P .any ops Q fuel listed a w
  | 0, _, _, _, h => h
  | fuel + 1, _, _, _, h => ⟨h.1, fun i hi => wpOp_mono (fun a' w' h' => wpAny_of_T fuel _ a' w' h'.2) (h.2 i hi)⟩
def Blocks (ops : Array Oper) (i : Nat) (listed : Array Bool) (B : List Nat) : Prop :=
  ∀ x ∈ B, listed.getD x true = false ∧ (x = i ∨ ∃ ox, ops[x]? = some ox ∧ ∃ e ∈ ox.after, Region.binds .any e = true ∧ e.on ∈ B)
theorem Blocks.not_ready {i j : Nat} {listed : Array Bool} {B : List Nat} (h : Blocks ops i listed B) (hj : j ∈ Region.ready .any ops listed) (hne : j ≠ i) : j ∉ B := by
  intro hB
  obtain ⟨_, oj, hoj, hall⟩ := mem_ready.1 hj
  rcases (h j hB).2 with e | ⟨ox, hox, e, he, hb, hon⟩
  · exact hne e
  · rw [hoj] at hox
    simp only [Option.some.injEq] at hox
    subst hox
    have h1 := hall e he hb
    have h0 := (h _ hon).1
    rcases Nat.lt_or_ge e.on listed.size with h' | h'
    · simp [h'] at h0 h1; rw [h0] at h1; cases h1
    · simp [Array.getElem?_eq_none h'] at h1
theorem wpAnyT_first {i : Nat} {oi : Oper} {v : Value} (hi : ops[i]? = some oi) (B : List Nat) (hsel : ∀ (j : Nat) (o : Oper) cs b, ops[j]? = some o → o.op ≠ .select cs b)
    (hQ : ∀ c a w, Q (.panic c) (a.put oi.dst v) w → Q (.panic c) a w) :
    ∀ (fuel : Nat) (listed : Array Bool) (a : Act) (w : World),
      (∀ j oj, ops[j]? = some oj → j ≠ i → listed.getD j true = false → (∀ e ∈ oj.after, Region.binds .any e = true → e.on ≠ i) → oi.apart ops oj = true) →
      Blocks ops i listed B → (∀ j ∈ brk, listed.getD j true = false → j ∈ B) → i ∉ brk →
      i ∈ Region.ready .any ops listed → YieldsIf P ops S oi v a → S w →
      wpAnyT P ops Q S brk fuel (listed.setIfInBounds i true) (a.put oi.dst v) w → wpAnyT P ops Q S brk (fuel + 1) listed a w := by
  intro fuel
  induction fuel with
  | zero =>
    intro listed a w _ _ _ _ hr hy hS H
    refine ⟨fun h => (by rw [h] at hr; cases hr), fun j hj => ?_⟩
    by_cases hji : j = i
    · subst hji; exact hy.wpOp hi hS ⟨fun _ _ => hS, H⟩
    · have := ready_mono hj hji
      rw [H.1] at this
      cases this
  | succ fuel ih =>
    intro listed a w hfree hB hbrk hib hr hy hS H
    refine ⟨fun h => (by rw [h] at hr; cases hr), fun j hj => ?_⟩
    by_cases hji : j = i
    · subst hji; exact hy.wpOp hi hS ⟨fun _ _ => hS, H⟩
    · have h1 := H.2 j (ready_mono hj hji)
      have hjB := hB.not_ready hj hji
      obtain ⟨hjun, oj, hoj, hall⟩ := mem_ready.1 hj
      have hiun := (mem_ready.1 hr).1
      have hnot : ∀ e ∈ oj.after, Region.binds .any e = true → e.on ≠ i := fun e he hb heq => by
        have h1 := hall e he hb
        have h0 := hiun
        rw [heq] at h1
        rcases Nat.lt_or_ge i listed.size with h' | h'
        · simp [h'] at h0 h1; rw [h0] at h1; cases h1
        · simp [Array.getElem?_eq_none h'] at h1
      have h2 := wpOp_putIf hoj (hfree j oj hoj hji hjun hnot) (fun cs b => hsel i oi cs b hi) (fun cs b => hsel j oj cs b hoj) hQ hy h1
      have hfree' : ∀ k ok, ops[k]? = some ok → k ≠ i → (listed.setIfInBounds j true).getD k true = false →
          (∀ e ∈ ok.after, Region.binds .any e = true → e.on ≠ i) → oi.apart ops ok = true := fun k ok hk hki hun hno => by
        refine hfree k ok hk hki ?_ hno
        by_cases hjk : j = k
        · subst hjk; exact hjun
        · rw [getD_set_ne true hjk] at hun; exact hun
      have hB' : Blocks ops i (listed.setIfInBounds j true) B := fun x hx => by
        obtain ⟨a1, a2⟩ := hB x hx
        refine ⟨?_, a2⟩
        rw [getD_set_ne true (fun e => hjB (by rw [e]; exact hx))]
        exact a1
      have hbrk' : ∀ k ∈ brk, (listed.setIfInBounds j true).getD k true = false → k ∈ B := fun k hk hun => by
        refine hbrk k hk ?_
        by_cases hjk : j = k
        · subst hjk; exact hjun
        · rw [getD_set_ne true hjk] at hun; exact hun
      have hjbrk : j ∉ brk := fun h => hjB (hbrk j h hjun)
      refine wpOp_mono (fun a' w' h3 => ⟨h3.2.1, ih (listed.setIfInBounds j true) a' w' hfree' hB' hbrk' hib (ready_mono hr (Ne.symm hji)) h3.1 (h3.2.1 hjbrk hS) ?_⟩) h2
      rw [Array.setIfInBounds_comm _ _ hji]
      exact h3.2.2

/-- An operation that does not look at memory may be taken first, whatever turns memory. -/
theorem wpAnyT_pure {i : Nat} {oi : Oper} {v : Value} (hi : ops[i]? = some oi) (hsel : ∀ (j : Nat) (o : Oper) cs b, ops[j]? = some o → o.op ≠ .select cs b)
    (hQ : ∀ c a w, Q (.panic c) (a.put oi.dst v) w → Q (.panic c) a w) :
    ∀ (fuel : Nat) (listed : Array Bool) (a : Act) (w : World),
      (∀ j oj, ops[j]? = some oj → j ≠ i → listed.getD j true = false → (∀ e ∈ oj.after, Region.binds .any e = true → e.on ≠ i) → oi.apart ops oj = true) →
      i ∈ Region.ready .any ops listed → YieldsIf P ops (fun _ => True) oi v a →
      wpAnyT P ops Q S brk fuel (listed.setIfInBounds i true) (a.put oi.dst v) w → wpAnyT P ops Q S brk (fuel + 1) listed a w := by
  intro fuel
  induction fuel with
  | zero =>
    intro listed a w _ hr hy H
    refine ⟨fun h => (by rw [h] at hr; cases hr), fun j hj => ?_⟩
    by_cases hji : j = i
    · subst hji; exact hy.wpOp hi trivial ⟨fun _ h => h, H⟩
    · have := ready_mono hj hji
      rw [H.1] at this
      cases this
  | succ fuel ih =>
    intro listed a w hfree hr hy H
    refine ⟨fun h => (by rw [h] at hr; cases hr), fun j hj => ?_⟩
    by_cases hji : j = i
    · subst hji; exact hy.wpOp hi trivial ⟨fun _ h => h, H⟩
    · have h1 := H.2 j (ready_mono hj hji)
      obtain ⟨hjun, oj, hoj, hall⟩ := mem_ready.1 hj
      have hiun := (mem_ready.1 hr).1
      have hnot : ∀ e ∈ oj.after, Region.binds .any e = true → e.on ≠ i := fun e he hb heq => by
        have h1 := hall e he hb
        have h0 := hiun
        rw [heq] at h1
        rcases Nat.lt_or_ge i listed.size with h' | h'
        · simp [h'] at h0 h1; rw [h0] at h1; cases h1
        · simp [Array.getElem?_eq_none h'] at h1
      have h2 := wpOp_putIf hoj (hfree j oj hoj hji hjun hnot) (fun cs b => hsel i oi cs b hi) (fun cs b => hsel j oj cs b hoj) hQ hy h1
      have hfree' : ∀ k ok, ops[k]? = some ok → k ≠ i → (listed.setIfInBounds j true).getD k true = false →
          (∀ e ∈ ok.after, Region.binds .any e = true → e.on ≠ i) → oi.apart ops ok = true := fun k ok hk hki hun hno => by
        refine hfree k ok hk hki ?_ hno
        by_cases hjk : j = k
        · subst hjk; exact hjun
        · rw [getD_set_ne true hjk] at hun; exact hun
      refine wpOp_mono (fun a' w' h3 => ⟨h3.2.1, ih (listed.setIfInBounds j true) a' w' hfree' (ready_mono hr (Ne.symm hji)) h3.1 ?_⟩) h2
      rw [Array.setIfInBounds_comm _ _ hji]
      exact h3.2.2
def looks (ops : Array Oper) (i : Nat) : Bool := match ops[i]? with
  | some o => (match o.op with | .load .. => true | .store .. => true | _ => false)
  | none => true

/-- What waits for i, by edges between what has not come up. -/
def isBlk (ops : Array Oper) (listed : Array Bool) (i : Nat) (B : List Nat) (x : Nat) : Bool :=
  !listed.getD x true && (x == i || (match ops[x]? with | some ox => ox.after.any (fun e => Region.binds .any e && B.contains e.on) | none => false))
def blocked (ops : Array Oper) (listed : Array Bool) (i : Nat) : List Nat :=
  (List.range ops.size).foldl (fun B x => bif isBlk ops listed i B x then x :: B else B) []
theorem isBlk_ok {ops : Array Oper} {listed : Array Bool} {i x : Nat} {B : List Nat} (h : isBlk ops listed i B x = true) :
    listed.getD x true = false ∧ (x = i ∨ ∃ ox, ops[x]? = some ox ∧ ∃ e ∈ ox.after, Region.binds .any e = true ∧ e.on ∈ B) := by
  unfold isBlk at h
  rw [Bool.and_eq_true, Bool.or_eq_true] at h
  obtain ⟨h1, h2⟩ := h
  refine ⟨by simpa using h1, ?_⟩
  rcases h2 with h2 | h2
  · exact .inl (by simpa using h2)
  · right
    split at h2
    · rename_i ox hox
      obtain ⟨e, he, hb⟩ := Array.any_eq_true'.1 h2
      simp only [Bool.and_eq_true] at hb
      exact ⟨ox, hox, e, he, hb.1, by simpa using hb.2⟩
    · cases h2
theorem blocked_ok (i : Nat) (listed : Array Bool) : Blocks ops i listed (blocked ops listed i) := by
  have key : ∀ (l : List Nat) (B : List Nat), Blocks ops i listed B → Blocks ops i listed (l.foldl (fun B x => bif isBlk ops listed i B x then x :: B else B) B) := by
    intro l
    induction l with
    | nil => intro B h; exact h
    | cons x l ih =>
      intro B h
      simp only [List.foldl_cons]
      apply ih
      cases hc : isBlk ops listed i B x with
      | false => exact h
      | true =>
        obtain ⟨h1, h2⟩ := isBlk_ok hc
        intro y hy
        have up : ∀ z, (z = i ∨ ∃ ox, ops[z]? = some ox ∧ ∃ e ∈ ox.after, Region.binds .any e = true ∧ e.on ∈ B) → (z = i ∨ ∃ ox, ops[z]? = some ox ∧ ∃ e ∈ ox.after, Region.binds .any e = true ∧ e.on ∈ x :: B) := by
          intro z hz
          refine hz.imp id ?_
          rintro ⟨ox, hox, e, he, hb, hon⟩
          exact ⟨ox, hox, e, he, hb, List.mem_cons_of_mem _ hon⟩
        rcases List.mem_cons.1 hy with rfl | hy
        · exact ⟨h1, up _ h2⟩
        · exact ⟨(h y hy).1, up _ (h y hy).2⟩
  exact key _ [] (fun _ h => by cases h)
/-- May number i be taken first? -/
def canTake (ops : Array Oper) (brk : List Nat) (listed : Array Bool) (i : Nat) : Bool :=
  (Region.ready .any ops listed).contains i && Region.free .any ops listed i && (!looks ops i || (brk.all (fun j => listed.getD j true || (blocked ops listed i).contains j) && !brk.contains i))
def takes (ops : Array Oper) (brk : List Nat) : Array Bool → List Nat → Bool
  | _, [] => true
  | l, i :: is => canTake ops brk l i && takes ops brk (l.setIfInBounds i true) is
def markAll : Array Bool → List Nat → Array Bool
  | l, [] => l
  | l, i :: is => markAll (l.setIfInBounds i true) is
end

section
variable {P : Program} {T : List (Nat × TI)} {F : List LF} {κ : K} {X : List HP} {n : Nat} {C : List HP} {Q : Exit → Act → World → Prop} {a : Act} {w : World} {L : Fs} {M : Mem} {brk : List Nat}

/-- The worlds in which the region's reads read the same. -/
def Keeps (κ : K) (M : Mem) (X : List HP) (w : World) : Prop := ∃ κ', κ.le κ' ∧ Hp κ' w (ptsOf M ++ X)
theorem Keeps.of {κ' : K} (h : Hp κ' w (ptsOf M ++ (X ++ C))) (l : κ.le κ') : Keeps κ M X w := ⟨κ', l, by rw [← List.append_assoc] at h; exact h.app _⟩

def evD (T : List (Nat × TI)) (F : List LF) (n : Nat) (dsts : List (Option Nat)) (ops : List Oper) (M : Mem) : List (Nat × Nat) → Fs → List Prop → Option (Fs × List Prop)
  | [], L, c => some (L, c)
  | (i, h) :: is, L, c => match ops[i]? with
    | none => none
    | some o => match gd dsts L o.guard with
      | some true => (match o.op with
        | .store .. => none
        | op => (match ev T F L M h op with
          | some (v, c1, _) => (match putF n o.dst v L with
            | some L1 => (match c1 with
              | [] => evD T F n dsts ops M is L1 c
              | [x] => evD T F n dsts ops M is L1 (x :: c)
              | _ => none)
            | none => none)
          | none => none))
      | some false => (match putF n o.dst undef L with
        | some L1 => evD T F n dsts ops M is L1 c
        | none => none)
      | none => none

theorem evD_all {dsts : List (Option Nat)} {ops : List Oper} : ∀ (is : List (Nat × Nat)) (L : Fs) (c : List Prop) (L' : Fs) (c' : List Prop), evD T F n dsts ops M is L c = some (L', c') → All c' → All c := by
  intro is
  induction is with
  | nil => intro L c L' c' e hc; simp only [evD, Option.some.injEq, Prod.mk.injEq] at e; rw [e.2]; exact hc
  | cons x is ih =>
    intro L c L' c' e hc
    obtain ⟨i, h⟩ := x
    simp only [evD] at e
    split at e
    · cases e
    · split at e
      · split at e
        · cases e
        · split at e
          · split at e
            · split at e
              · exact ih _ _ _ _ e hc
              · exact (ih _ _ _ _ e hc).2
              · cases e
            · cases e
          · cases e
      · split at e
        · exact ih _ _ _ _ e hc
        · cases e
      · cases e
/-- An evaluated operation that is no store leaves the world alone, in every world that keeps the blocks. -/
theorem ev_reads (hT : Tab P T) {ρ : Operand → Value} (hρ : Sees ρ L) (hR : LFok κ X F) {h : Nat} {o : Oper} {v : Value} {c : List Prop} {M' : Mem}
    (hs : ∀ t x y, o.op ≠ .store t x y) (e : ev T F L M h o.op = some (v, c, M')) (hc : All c) (hK : Keeps κ M X w) : (execOp ρ o).run P w = .ok (.value v) w := by
  obtain ⟨κ', l, hH⟩ := hK
  have hR' := hR.mono l
  unfold ev at e
  split at e
  · rename_i t x ho
    split at e
    · rename_i b off hx
      split at e
      · split at e
        · rename_i r hr
          have hk := hH.focus _ (ptsOf_get hr X)
          have hb := hk.ptr
          obtain ⟨u, e2, hrun⟩ := ldv_run (k := fun v => some (v, [b = r.b], M)) hT e hb
          simp only [Option.some.injEq, Prod.mk.injEq] at e2
          obtain ⟨rfl, rfl, rfl⟩ := e2
          simp only [All, and_true] at hc
          subst hc
          simp [execOp, ho, hρ _ _ hx, Instr.loadAt, Instr.sureAddr, hrun]
        · cases e
      · split at e
        · rename_i r hr
          obtain ⟨cs, tt, fr, hb, hcs⟩ := hR' r (List.mem_of_getElem? hr) κ' w (K.le.refl κ') (Hp.right _ hH)
          obtain ⟨u, e2, hrun⟩ := ldv_at (k := fun v => some (v, [b = r.b ∧ off = r.off], M)) hT e hb (fun j v hv => hcs j v (by simpa using hv))
          simp only [Option.some.injEq, Prod.mk.injEq] at e2
          obtain ⟨rfl, rfl, rfl⟩ := e2
          simp only [All, and_true] at hc
          obtain ⟨rfl, rfl⟩ := hc
          simp [execOp, ho, hρ _ _ hx, Instr.loadAt, Instr.sureAddr, hrun]
        · cases e
    · cases e
  · rename_i t x y ho
    exact absurd ho (hs t x y)
  · split at e
    · rename_i v' c' hp
      simp only [Option.some.injEq, Prod.mk.injEq] at e
      obtain ⟨rfl, rfl, rfl⟩ := e
      exact pv_run hT hρ hp hc rfl w
    · cases e
theorem ev_pure (hT : Tab P T) {ρ : Operand → Value} (hρ : Sees ρ L) {h : Nat} {o : Oper} {v : Value} {c : List Prop} {M' : Mem}
    (hs : ∀ t x y, o.op ≠ .store t x y) (hl : ∀ t x, o.op ≠ .load t x) (e : ev T F L M h o.op = some (v, c, M')) (hc : All c) : (execOp ρ o).run P w = .ok (.value v) w := by
  unfold ev at e
  split at e
  · rename_i t x ho
    exact absurd ho (hl t x)
  · rename_i t x y ho
    exact absurd ho (hs t x y)
  · split at e
    · rename_i v' c' hp
      simp only [Option.some.injEq, Prod.mk.injEq] at e
      obtain ⟨rfl, rfl, rfl⟩ := e
      exact pv_run hT hρ hp hc rfl w
    · cases e
/-- Some reads are taken. -/
theorem dr_take (hT : Tab P T) (hR : LFok κ X F) {ops : List Oper} (hns : Region.noSelect ops.toArray = true) : ∀ (is : List (Nat × Nat)) {L : Fs} {c : List Prop} {L' : Fs} {c' : List Prop} {fuel : Nat} {listed : Array Bool} {a : Act},
    Fr n a L → Keeps κ M X w → takes ops.toArray brk listed (is.map (·.1)) = true →
    evD T F n (ops.map (·.dst)) ops M is L c = some (L', c') → All c' →
    (∀ a', Fr n a' L' → wpAnyT P ops.toArray (NoPanic Q) (Keeps κ M X) brk fuel (markAll listed (is.map (·.1))) a' w) →
    wpAnyT P ops.toArray (NoPanic Q) (Keeps κ M X) brk (fuel + is.length) listed a w := by
  intro is
  induction is with
  | nil => intro L c L' c' fuel listed a hF hK ht e hc k; simp only [evD, Option.some.injEq, Prod.mk.injEq] at e; exact k a (by rw [← e.1]; exact hF)
  | cons x is ih =>
    intro L c L' c' fuel listed a hF hK ht e hc k
    obtain ⟨i, h⟩ := x
    simp only [List.map_cons, takes, Bool.and_eq_true] at ht
    obtain ⟨ht1, ht2⟩ := ht
    simp only [canTake, Bool.and_eq_true, List.all_eq_true, Bool.or_eq_true, Bool.not_eq_true'] at ht1
    obtain ⟨⟨hr, hfr⟩, hbb⟩ := ht1
    simp only [evD] at e
    split at e
    · cases e
    rename_i o ho
    have ho' : ops.toArray[i]? = some o := by simpa using ho
    have key : ∀ (v : Value) (L1 : Fs) (c1 : List Prop), putF n o.dst v L = some L1 → YieldsIf P ops.toArray (Keeps κ M X) o v a → (looks ops.toArray i = false → YieldsIf P ops.toArray (fun _ => True) o v a) → evD T F n (ops.map (·.dst)) ops M is L1 c1 = some (L', c') →
        wpAnyT P ops.toArray (NoPanic Q) (Keeps κ M X) brk (fuel + is.length + 1) listed a w := fun v L1 c1 hp hy hy2 e1 => by
      rcases hbb with hlo | ⟨hbr, hnb⟩
      · exact wpAnyT_pure ho' (Region.noSelect_spec hns) (fun _ _ _ h => (h : False).elim) (fuel + is.length) listed a w (Region.free_spec ho' hfr) (by simpa using hr) (hy2 hlo)
          (ih (putF_fr hF hp) hK ht2 e1 hc k)
      · have hbr' : ∀ j ∈ brk, listed.getD j true = false → j ∈ blocked ops.toArray listed i := fun j hj hu => by
          rcases hbr j hj with h | h
          · rw [hu] at h; cases h
          · simpa using h
        exact wpAnyT_first ho' _ (Region.noSelect_spec hns) (fun _ _ _ h => (h : False).elim) (fuel + is.length) listed a w (Region.free_spec ho' hfr) (blocked_ok i listed) hbr' (by simpa using hnb) (by simpa using hr) hy hK
          (ih (putF_fr hF hp) hK ht2 e1 hc k)
    have hlk : looks ops.toArray i = false → (∀ t x y, o.op ≠ .store t x y) ∧ ∀ t x, o.op ≠ .load t x := fun h => by
      unfold looks at h
      rw [ho'] at h
      constructor
      · intro t x y e; simp [e] at h
      · intro t x e; simp [e] at h
    split at e
    · rename_i hg
      split at e
      · cases e
      rename_i hst
      split at e
      · rename_i v c1 M1 he
        split at e
        · rename_i L1 hp
          have hw := gd_wanted (ops := ops.toArray) hF (by simpa using hg)
          split at e
          · exact key _ _ _ hp (.inl ⟨hw, fun w' hK' => ev_reads hT hF.sees hR hst he trivial hK'⟩) (fun h => .inl ⟨hw, fun w' _ => ev_pure hT hF.sees (hlk h).1 (hlk h).2 he trivial⟩) e
          · have := evD_all _ _ _ _ _ e hc
            exact key _ _ _ hp (.inl ⟨hw, fun w' hK' => ev_reads hT hF.sees hR hst he ⟨this.1, trivial⟩ hK'⟩) (fun h => .inl ⟨hw, fun w' _ => ev_pure hT hF.sees (hlk h).1 (hlk h).2 he ⟨this.1, trivial⟩⟩) e
          · cases e
        · cases e
      · cases e
    · rename_i hg
      split at e
      · rename_i L1 hp
        exact key _ _ _ hp (.inr ⟨gd_wanted (ops := ops.toArray) hF (by simpa using hg), rfl⟩) (fun _ => .inr ⟨gd_wanted (ops := ops.toArray) hF (by simpa using hg), rfl⟩) e
      · cases e
    · cases e
/-- One operation that acts: it alone may come up. -/
theorem dr_act {ops : List Oper} {k fuel : Nat} {listed : Array Bool} {o : Oper} (hr : Region.ready .any ops.toArray listed = [k]) (ho : ops[k]? = some o) (hF : Fr n a L) (hg : gd (ops.map (·.dst)) L o.guard = some true)
    (h : o.wp P a w (fun a' w' => (k ∉ brk → Keeps κ M X w') ∧ wpAnyT P ops.toArray (NoPanic Q) (Keeps κ M X) brk fuel (listed.setIfInBounds k true) a' w') (NoPanic Q)) :
    wpAnyT P ops.toArray (NoPanic Q) (Keeps κ M X) brk (fuel + 1) listed a w := by
  refine ⟨fun h0 => (by rw [hr] at h0; cases h0), fun i hi => ?_⟩
  rw [hr] at hi
  simp only [List.mem_singleton] at hi
  subst hi
  refine wpOp_mono (K := fun a' w' => (i ∉ brk → Keeps κ M X w') ∧ wpAnyT P ops.toArray (NoPanic Q) (Keeps κ M X) brk fuel (listed.setIfInBounds i true) a' w') (fun a' w' h => ⟨fun h1 _ => h.1 h1, h.2⟩) ?_
  unfold wpOp
  have ho' : ops.toArray[i]? = some o := by simpa using ho
  rw [ho']
  simp only
  rw [if_pos (gd_wanted hF (by simpa using hg))]
  exact .inl h
theorem dr_done {ops : List Oper} {listed : Array Bool} (hr : Region.ready .any ops.toArray listed = []) (h : Q .normal a w) : ∀ fuel, wpAnyT P ops.toArray (NoPanic Q) (Keeps κ M X) brk fuel listed a w
  | 0 => ⟨hr, h⟩
  | _ + 1 => ⟨fun _ => h, by rw [hr]; simp⟩
/-- Such a region begins. -/
theorem dr_begin (hm : P.follows .mixedOrders = true) {id : Nat} {ops : List Oper} (κ : K) (M : Mem) (X : List HP) (brk : List Nat) (h : ∀ w', w'.heap = w.heap → w'.os = w.os → w'.tape = w.tape → w'.output = w.output →
    wpAnyT P ops.toArray (NoPanic Q) (Keeps κ M X) brk ops.length (Array.replicate ops.length false) a w') : (Code.region id ops.toArray true).wp P Q a w :=
  wp_region_noPanic (wp_region_any hm (wpAny_of_T _ _ _ _ (by simpa using h { w with drawn := w.drawn + 1 } rfl rfl rfl rfl)))
end
end Go.Sep
