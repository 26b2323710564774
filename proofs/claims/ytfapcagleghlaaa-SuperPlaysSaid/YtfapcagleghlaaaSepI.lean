/- Two structs of whole numbers, compared. Two operations that act, whichever comes up first. -/
import Derived.Laws.StructEq
import Derived.Test.YtfapcagleghlaaaSepH
set_option linter.all false
namespace Go.Sep
open Go

def intF (P : Program) (f : Field) (off : Nat) (k : IntKind) : Bool :=
  (f.name != "_") && Nat.beq f.offset off && (match P.underlying f.type with | some (.int k') => decide (k' = k) | _ => false)
def intFs (P : Program) : List Field → Nat → List IntKind → Bool
  | [], _, [] => true
  | f :: fs, i, k :: ks => intF P f i k && intFs P fs (i + 1) ks
  | _, _, _ => false
def structInts (P : Program) (t : Nat) (ks : List IntKind) : Bool :=
  !P.stoodInHeld t && (match P.underlying t with | some (.struct F) => intFs P F.toList 0 ks | _ => false) && !P.eqGuardType P.depth t
def kindsL : List Value → List IntKind → Bool
  | [], [] => true
  | .int k _ :: vs, k' :: ks => decide (k = k') && kindsL vs ks
  | _, _ => false
theorem part_int {P : Program} {w : World} {t off : Nat} {k : IntKind} {xs : Array Value} {v : Value} (hu : P.underlying t = some (.int k)) (hv : xs[off]? = some v) : (part t xs off).run P w = .ok v w := by
  simp [part, isAgg, run_underlying hu, hv]
theorem run_eqInts {P : Program} {w : World} (d : Nat) (xs ys : Array Value) : ∀ (fs : List Field) (i : Nat) (ks : List IntKind) (vx vy : List Value), intFs P fs i ks = true → kindsL vx ks = true → kindsL vy ks = true →
    (∀ j v, vx[j]? = some v → xs[i + j]? = some v) → (∀ j v, vy[j]? = some v → ys[i + j]? = some v) → ∃ r, (Op.eqFields (d + 1) xs ys fs).run P w = .ok r w ∧ (r = true ↔ vx = vy) := by
  intro fs
  induction fs with
  | nil =>
    intro i ks vx vy h1 h2 h3 _ _
    cases ks with
    | nil =>
      cases vx <;> cases vy <;> simp [kindsL] at h2 h3
      exact ⟨true, by simp [Op.eqFields], by simp⟩
    | cons k ks => simp [intFs] at h1
  | cons f fs ih =>
    intro i ks vx vy h1 h2 h3 hx hy
    cases ks with
    | nil => simp [intFs] at h1
    | cons k ks =>
      simp only [intFs, intF, Bool.and_eq_true] at h1
      obtain ⟨⟨⟨hn, ho⟩, hk⟩, h1⟩ := h1
      have ho := Nat.eq_of_beq_eq_true ho
      split at hk
      · rename_i k' hu
        have hk : k' = k := by simpa using hk
        subst hk
        cases vx with
        | nil => simp [kindsL] at h2
        | cons a vx =>
        cases vy with
        | nil => simp [kindsL] at h3
        | cons b vy =>
        cases a <;> simp only [kindsL, Bool.and_eq_true, Bool.false_eq_true] at h2
        rename_i ka na
        cases b <;> simp only [kindsL, Bool.and_eq_true, Bool.false_eq_true] at h3
        rename_i kb nb
        have e1 : ka = k' := by simpa using h2.1
        have e2 : kb = k' := by simpa using h3.1
        subst e1; subst e2
        have p1 := part_int (P := P) (w := w) hu (hx 0 _ rfl)
        have p2 := part_int (P := P) (w := w) hu (hy 0 _ rfl)
        rw [Nat.add_zero, ← ho] at p1 p2
        have p3 : (Op.equalIn (d + 1) f.type (.int kb na) (.int kb nb)).run P w = .ok (na == nb) w := by
          simp [Op.equalIn, run_underlying hu]
        obtain ⟨r, hr, hiff⟩ := ih (i + 1) ks vx vy h1 h2.2 h3.2 (fun j v h => by rw [Nat.add_assoc, Nat.add_comm 1 j]; exact hx (j + 1) v h) (fun j v h => by rw [Nat.add_assoc, Nat.add_comm 1 j]; exact hy (j + 1) v h)
        have hn' : f.name ≠ "_" := by simpa using hn
        by_cases h : na = nb
        · subst h
          refine ⟨r, by simp [Op.eqFields, hn', p1, p2, p3, hr], by rw [hiff]; simp⟩
        · refine ⟨false, by simp [Op.eqFields, hn', p1, p2, p3, h], by simp [h]⟩
      · cases hk
theorem run_equal_ints {P : Program} {w : World} {t : Nat} {ks : List IntKind} {xs ys : List Value} (hs : structInts P t ks = true) (hx : kindsL xs ks = true) (hy : kindsL ys ks = true) :
    ∃ r, (Op.equal t (.agg xs.toArray) (.agg ys.toArray)).run P w = .ok r w ∧ (r = true ↔ xs = ys) ∧ P.eqGuardType P.depth t = false := by
  simp only [structInts, Bool.and_eq_true, Bool.not_eq_true'] at hs
  obtain ⟨⟨h1, h2⟩, h3⟩ := hs
  split at h2
  · rename_i F hF
    have hf : P.fieldsOf t = F := by simp [Program.fieldsOf, hF]
    obtain ⟨n, hn⟩ : ∃ n, ∀ t x y, Op.equal t x y = Op.equalIn (n + 2) t x y := ⟨9998, fun _ _ _ => rfl⟩
    have := run_equalIn_struct w (n + 1) t xs.toArray ys.toArray (by rw [hf]; exact hF) h1
    rw [hf] at this
    obtain ⟨r, hr, hiff⟩ := run_eqInts (P := P) (w := w) n xs.toArray ys.toArray F.toList 0 ks xs ys h2 hx hy (fun j v h => by simpa using h) (fun j v h => by simpa using h)
    exact ⟨r, by rw [hn, this, hr], hiff, h3⟩
  · cases h2
theorem binOp_eql_agg (t : Nat) (p q : Array Value) : binOp .eql t (.agg p) (.agg q) = (do Pure.pure (.bool (← Op.equal t (.agg p) (.agg q)))) := rfl
theorem binOp_neq_agg (t : Nat) (p q : Array Value) : binOp .neq t (.agg p) (.agg q) = (do Pure.pure (.bool (!(← Op.equal t (.agg p) (.agg q))))) := rfl
section
variable {P : Program} {T : List (Nat × TI)} {κ : K} {n : Nat} {C : List HP} {Q : Exit → Act → World → Prop} {a : Act} {w : World} {L : Fs} {o : Oper} {K : Act → World → Prop} {d : Nat}
theorem op_eqS {t ty : Nat} {x y : Operand} {xs ys : List Value} (ks : List IntKind) (hF : Fr n a L) (ho : o.op = .binOp .eql t x y ty) (hd : o.dst = some d) (hn : Nat.blt d n = true) (hx : look L x = some (.agg xs.toArray)) (hy : look L y = some (.agg ys.toArray))
    (hs : structInts P t ks = true) (h1 : kindsL xs ks = true) (h2 : kindsL ys ks = true) (k : ∀ r a', (r = true ↔ xs = ys) → Fr n a' ((d, .bool r) :: L) → K a' w) : o.wp P a w K Q := by
  obtain ⟨r, hr, hiff, hg⟩ := run_equal_ints (P := P) (w := w) hs h1 h2
  have hrun : (execOp a.eval o).run P w = .ok (.value (.bool r)) w := by
    have hev := hF.eval hx
    have hev2 := hF.eval hy
    have hgd : (eqGuard .eql t x y (.agg xs.toArray) (.agg ys.toArray)).run P w = .ok () w := by
      simp [eqGuard, hg]
    unfold execOp
    simp only [ho, hev, hev2, Sem.run_bind, hgd, Result.andThen_ok, binOp_eql_agg, hr]
    rfl
  unfold Oper.wp
  rw [hrun]
  exact k _ _ hiff (put_of hF hd hn _)
theorem op_neS {t ty : Nat} {x y : Operand} {xs ys : List Value} (ks : List IntKind) (hF : Fr n a L) (ho : o.op = .binOp .neq t x y ty) (hd : o.dst = some d) (hn : Nat.blt d n = true) (hx : look L x = some (.agg xs.toArray)) (hy : look L y = some (.agg ys.toArray))
    (hs : structInts P t ks = true) (h1 : kindsL xs ks = true) (h2 : kindsL ys ks = true) (k : ∀ r a', (r = true ↔ ¬ xs = ys) → Fr n a' ((d, .bool r) :: L) → K a' w) : o.wp P a w K Q := by
  obtain ⟨r, hr, hiff, hg⟩ := run_equal_ints (P := P) (w := w) hs h1 h2
  have hrun : (execOp a.eval o).run P w = .ok (.value (.bool (!r))) w := by
    have hev := hF.eval hx
    have hev2 := hF.eval hy
    have hgd : (eqGuard .neq t x y (.agg xs.toArray) (.agg ys.toArray)).run P w = .ok () w := by
      simp [eqGuard, hg]
    unfold execOp
    simp only [ho, hev, hev2, Sem.run_bind, hgd, Result.andThen_ok, binOp_neq_agg, hr]
    rfl
  unfold Oper.wp
  rw [hrun]
  exact k _ _ (by rw [← hiff]; simp) (put_of hF hd hn _)
/-- Two operations may come up. -/
theorem dr_act2 {κ : Sep.K} {M : Mem} {X : List HP} {brk : List Nat} {ops : List Oper} {k1 k2 fuel : Nat} {listed : Array Bool} {o1 o2 : Oper} (hr : Region.ready .any ops.toArray listed = [k1, k2]) (ho1 : ops[k1]? = some o1) (ho2 : ops[k2]? = some o2) (hF : Fr n a L)
    (hg1 : gd (ops.map (·.dst)) L o1.guard = some true) (hg2 : gd (ops.map (·.dst)) L o2.guard = some true)
    (h1 : o1.wp P a w (fun a' w' => (k1 ∉ brk → Keeps κ M X w') ∧ wpAnyT P ops.toArray (NoPanic Q) (Keeps κ M X) brk fuel (listed.setIfInBounds k1 true) a' w') (NoPanic Q))
    (h2 : o2.wp P a w (fun a' w' => (k2 ∉ brk → Keeps κ M X w') ∧ wpAnyT P ops.toArray (NoPanic Q) (Keeps κ M X) brk fuel (listed.setIfInBounds k2 true) a' w') (NoPanic Q)) :
    wpAnyT P ops.toArray (NoPanic Q) (Keeps κ M X) brk (fuel + 1) listed a w := by
  refine ⟨fun h0 => (by rw [hr] at h0; cases h0), fun i hi => ?_⟩
  rw [hr] at hi
  simp only [List.mem_cons, List.not_mem_nil, or_false] at hi
  have key : ∀ (k : Nat) (o : Oper), ops[k]? = some o → gd (ops.map (·.dst)) L o.guard = some true → o.wp P a w (fun a' w' => (k ∉ brk → Keeps κ M X w') ∧ wpAnyT P ops.toArray (NoPanic Q) (Keeps κ M X) brk fuel (listed.setIfInBounds k true) a' w') (NoPanic Q) →
      wpOp P ops.toArray (NoPanic Q) k (fun a' w' => (k ∉ brk → Keeps κ M X w') ∧ wpAnyT P ops.toArray (NoPanic Q) (Keeps κ M X) brk fuel (listed.setIfInBounds k true) a' w') a w := by
    intro k o ho hg h
    unfold wpOp
    have ho' : ops.toArray[k]? = some o := by simpa using ho
    rw [ho']
    simp only
    rw [if_pos (gd_wanted hF (by simpa using hg))]
    exact .inl h
  rcases hi with rfl | rfl
  · exact wpOp_mono (fun a' w' h => ⟨fun h1 _ => h.1 h1, h.2⟩) (key _ _ ho1 hg1 h1)
  · exact wpOp_mono (fun a' w' h => ⟨fun h1 _ => h.1 h1, h.2⟩) (key _ _ ho2 hg2 h2)
end
end Go.Sep
