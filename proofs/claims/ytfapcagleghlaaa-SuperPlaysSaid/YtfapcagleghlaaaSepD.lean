/- Code by its structure: regions, tests, loops, a function's entry and its end, calls. -/
import Derived.Deep.LoopGhost
import Derived.Scope
import Derived.Test.YtfapcagleghlaaaSepC
set_option linter.all false
namespace Go.Sep
open Go

section
variable {P : Program} {T : List (Nat × TI)} {F : List LF} {κ : K} {X : List HP} {n : Nat} {C : List HP} {Q : Exit → Act → World → Prop} {a : Act} {w : World} {L : Fs} {M : Mem}

theorem wp_seq' {x y : Code} (h : x.wp P (Exit.then (y.wp P Q) Q) a w) : (Code.seq x y).wp P Q a w := wp_seq h
/-- A region that does not draw, its first operations by the evaluator. -/
theorem region_ev {id : Nat} {l : List Oper} {hs : List Nat} {L' : Fs} {M' : Mem} {c' : List Prop} {l' : List Oper}
    (hT : Tab P T) (hR : LFok κ X F) (hF : Fr n a L) (hH : Hp κ w (ptsOf M ++ (X ++ C))) (e : evN T F n (l.map (·.dst)) hs l L M [] = some (L', M', c', l')) (hc : All c')
    (k : ∀ a' w', Fr n a' L' → Hp κ w' (ptsOf M' ++ (X ++ C)) → wpList P l.toArray Q l' a' w') : (Code.region id l.toArray false).wp P Q a w :=
  wp_region_lit (wpList_ev hT hR hs hF hH (by simpa using e) hc k)
theorem ops_ev {ops l : List Oper} {hs : List Nat} {L' : Fs} {M' : Mem} {c' : List Prop} {l' : List Oper}
    (hT : Tab P T) (hR : LFok κ X F) (hF : Fr n a L) (hH : Hp κ w (ptsOf M ++ (X ++ C))) (e : evN T F n (ops.map (·.dst)) hs l L M [] = some (L', M', c', l')) (hc : All c')
    (k : ∀ a' w', Fr n a' L' → Hp κ w' (ptsOf M' ++ (X ++ C)) → wpList P ops.toArray Q l' a' w') : wpList P ops.toArray Q l a w :=
  wpList_ev hT hR hs hF hH (by simpa using e) hc k
theorem cond_t {c : Operand} {x y : Code} {b : Bool} (hF : Fr n a L) (hl : look L c = some (.bool b)) (hb : b = true) (h : x.wp P Q a w) : (Code.cond c x y).wp P Q a w :=
  wp_cond_true (by rw [hF.eval hl, hb]) h
theorem cond_f {c : Operand} {x y : Code} {b : Bool} (hF : Fr n a L) (hl : look L c = some (.bool b)) (hb : b = false) (h : y.wp P Q a w) : (Code.cond c x y).wp P Q a w :=
  wp_cond_false (by rw [hF.eval hl, hb]) h
theorem cond_s {c : Operand} {x y : Code} {b : Bool} (hF : Fr n a L) (hl : look L c = some (.bool b)) (h1 : b = true → x.wp P Q a w) (h2 : b = false → y.wp P Q a w) : (Code.cond c x y).wp P Q a w := by
  cases b with
  | true => exact cond_t hF hl rfl (h1 rfl)
  | false => exact cond_f hF hl rfl (h2 rfl)
/-- A loop: 'J x' holds at the head of each round, and every round lowers 'm x'. -/
theorem loop_j {c : Code} {α : Type} (J : α → Act → World → Prop) (m : α → Nat) (x₀ : α) (h₀ : J x₀ a w)
    (round : ∀ x a w, J x a w → c.wp P (Exit.then (fun a' w' => ∃ x', J x' a' w' ∧ m x' < m x) Q) a w) : (Code.loop c).wp P Q a w := by
  refine wp_loop_ghost (fun k a w => ∃ x, J x a w ∧ m x = k) (m x₀) ⟨x₀, h₀, rfl⟩ ?_
  rintro k a w ⟨x, hx, rfl⟩
  refine Code.wp_mono ?_ (round x a w hx)
  intro e a' w' q
  cases e with
  | normal => obtain ⟨x', h1, h2⟩ := q; exact ⟨m x', h2, x', h1, rfl⟩
  | _ => exact q

def initL : Nat → List Value → Fs
  | _, [] => []
  | k, v :: vs => (k, v) :: initL (k + 1) vs
theorem initL_get : ∀ (vs : List Value) (k s : Nat) (v : Value), lk (initL k vs) s = some v → k ≤ s ∧ vs[s - k]? = some v := by
  intro vs
  induction vs with
  | nil => intro k s v h; cases h
  | cons u vs ih =>
    intro k s v h
    simp only [initL, lk] at h
    cases hb : Nat.beq k s with
    | true =>
      rw [hb] at h
      simp only [cond_true, Option.some.injEq] at h
      have := Nat.eq_of_beq_eq_true hb
      subst this; subst h
      simp
    | false =>
      rw [hb] at h
      obtain ⟨h1, h2⟩ := ih (k + 1) s v h
      refine ⟨by omega, ?_⟩
      rw [show s - k = (s - (k + 1)) + 1 from by omega]
      simpa using h2
/-- A call begins. -/
theorem enter {f : Nat} {fn : Func} {c : Code} {args : List Value} {Rr : Ending → World → Prop} (hf : P.funcs[f]? = some fn) (hb : fn.body = some c) (hn : Nat.ble args.length fn.ntmps = true)
    (h : ∀ a, Fr fn.ntmps a (initL 0 args) → c.wp P (bodyPost P fn Rr) a w) : Calls P f args.toArray w Rr := by
  refine calls_of_wp hf hb (h _ ⟨rfl, ?_, ?_⟩)
  · have := Nat.le_of_ble_eq_true hn
    simp; omega
  · intro s v hv
    obtain ⟨_, h2⟩ := initL_get args 0 s v hv
    simp only [Nat.sub_zero] at h2
    have hs : s < args.length := by
      rcases Nat.lt_or_ge s args.length with g | g
      · exact g
      · rw [List.getElem?_eq_none g] at h2; cases h2
    rw [Array.getElem?_append_left (by simpa using hs)]
    simpa using h2

/-- The results of a function: slots, or variables on known blocks. -/
def resv (T : List (Nat × TI)) (L : Fs) (M : Mem) : List Nat → List ResultVar → List Value → List Prop → Option (List Value × List Prop)
  | _, [], acc, c => some (acc.reverse, c)
  | hs, .tmp t :: rs, acc, c => match lk L t with
    | some v => resv T L M hs rs (v :: acc) c
    | none => none
  | [], .cell _ _ :: _, _, _ => none
  | h :: hs, .cell p ty :: rs, acc, c => match lk L p, M[h]? with
    | some (.pointer (some ⟨b, off, none⟩)), some r => ldv T ty r.cs off fun v => resv T L M hs rs (v :: acc) ((b = r.b) :: c)
    | _, _ => none
def one : List Value → Value
  | [v] => v
  | vs => .tuple vs.toArray
def rvGet (tmps : Array Value) : ResultVar → Sem Value
  | .tmp t => Pure.pure (tmps.getD t undef)
  | .cell p t => do loadVar t (← asAddr (tmps.getD p undef))
theorem resv_all : ∀ (rs : List ResultVar) (hs : List Nat) (acc : List Value) (c : List Prop) (vs : List Value) (c' : List Prop), resv T L M hs rs acc c = some (vs, c') → All c' → All c := by
  intro rs
  induction rs with
  | nil => intro hs acc c vs c' e h; cases hs <;> (simp only [resv, Option.some.injEq, Prod.mk.injEq] at e; rw [← e.2] at h; exact h)
  | cons r rs ih =>
    intro hs acc c vs c' e h
    cases r with
    | tmp t =>
      cases hs <;> (simp only [resv] at e; split at e; exact ih _ _ _ _ _ e h; cases e)
    | cell p ty =>
      cases hs with
      | nil => simp [resv] at e
      | cons h0 hs =>
        simp only [resv] at e
        split at e
        · unfold ldv at e
          split at e
          · rw [cond_eq_ite] at e
            split at e
            · rw [force_eq, cond_eq_ite] at e
              split at e
              · exact (ih _ _ _ _ _ e h).2
              · cases e
            · split at e
              · exact (ih _ _ _ _ _ e h).2
              · cases e
          · cases e
        · cases e
theorem resv_run (hT : Tab P T) (hF : Fr n a L) (hH : Hp κ w (ptsOf M ++ C)) : ∀ (rs : List ResultVar) (hs : List Nat) (acc : List Value) (c : List Prop) (vs : List Value) (c' : List Prop),
    resv T L M hs rs acc c = some (vs, c') → All c' → ∃ us, (rs.mapM (rvGet a.tmps)).run P w = .ok us w ∧ vs = acc.reverse ++ us := by
  intro rs
  induction rs with
  | nil =>
    intro hs acc c vs c' e h
    refine ⟨[], by simp, ?_⟩
    cases hs <;> (simp only [resv, Option.some.injEq, Prod.mk.injEq] at e; rw [← e.1]; simp)
  | cons r rs ih =>
    intro hs acc c vs c' e h
    cases r with
    | tmp t =>
      have key : ∀ v hs', lk L t = some v → resv T L M hs' rs (v :: acc) c = some (vs, c') → ∃ us, ((ResultVar.tmp t :: rs).mapM (rvGet a.tmps)).run P w = .ok us w ∧ vs = acc.reverse ++ us := by
        intro v hs' hv e'
        obtain ⟨us, h1, h2⟩ := ih _ _ _ _ _ e' h
        have hg := hF.get _ _ hv
        refine ⟨v :: us, ?_, by simp [h2]⟩
        have hv' : (rvGet a.tmps (.tmp t)).run P w = .ok v w := by simp [rvGet, Array.getD_eq_getD_getElem?, hg]
        simp only [List.mapM_cons, Sem.run_bind, hv', Result.andThen_ok, h1]
        rfl
      cases hs <;>
      · simp only [resv] at e
        split at e
        · rename_i v hv
          exact key v _ hv e
        · cases e
    | cell p ty =>
      cases hs with
      | nil => simp [resv] at e
      | cons h0 hs =>
        simp only [resv] at e
        split at e
        · rename_i b off r hv hr
          have hk := hH.focus _ (ptsOf_get hr C)
          have hb := hk.ptr
          obtain ⟨u, e2, hrun⟩ := ldv_run (k := fun v => resv T L M hs rs (v :: acc) ((b = r.b) :: c)) hT e hb
          have hb' := (resv_all _ _ _ _ _ _ e2 h).1
          subst hb'
          obtain ⟨us, h1, h2⟩ := ih _ _ _ _ _ e2 h
          have hg := hF.get _ _ hv
          refine ⟨u :: us, ?_, by simp [h2]⟩
          have hv' : (rvGet a.tmps (.cell p ty)).run P w = .ok u w := by simp [rvGet, Array.getD_eq_getD_getElem?, hg, asAddr, hrun]
          simp only [List.mapM_cons, Sem.run_bind, hv', Result.andThen_ok, h1]
          rfl
        · cases e
theorem results_run (hT : Tab P T) (hF : Fr n a L) (hH : Hp κ w (ptsOf M ++ C)) {fn : Func} {hs : List Nat} {vs : List Value} {c' : List Prop} (e : resv T L M hs fn.results.toList [] [] = some (vs, c')) (hc : All c') :
    (results fn a.tmps).run P w = .ok (one vs) w := by
  obtain ⟨us, h1, h2⟩ := resv_run hT hF hH _ _ _ _ _ _ e hc
  simp only [List.reverse_nil, List.nil_append] at h2
  subst h2
  have e2 : results fn a.tmps = (do let vs ← fn.results.mapM (rvGet a.tmps); Pure.pure (if h : vs.size = 1 then vs[0] else .tuple vs)) := rfl
  rw [e2, Array.mapM_eq_mapM_toList]
  simp only [Sem.run_bind, map_eq_pure_bind, h1, Result.andThen_ok, Sem.run_pure]
  cases vs with
  | nil => rfl
  | cons v vs => cases vs with
    | nil => rfl
    | cons u vs => simp [one]
/-- A call ends. -/
theorem ret {fn : Func} {Rr : Ending → World → Prop} {hs : List Nat} {vs : List Value} {c' : List Prop} (hT : Tab P T) (hF : Fr n a L) (hH : Hp κ w (ptsOf M ++ C)) (e : resv T L M hs fn.results.toList [] [] = some (vs, c')) (hc : All c')
    (h : Rr (.returned (one vs)) w) : bodyPost P fn Rr .ret a w := ⟨hF.defers, _, results_run hT hF hH e hc, h⟩
theorem fin {fn : Func} {Rr : Ending → World → Prop} {hs : List Nat} {vs : List Value} {c' : List Prop} (hT : Tab P T) (hF : Fr n a L) (hH : Hp κ w (ptsOf M ++ C)) (e : resv T L M hs fn.results.toList [] [] = some (vs, c')) (hc : All c')
    (h : Rr (.returned (one vs)) w) : bodyPost P fn Rr .normal a w := ⟨hF.defers, _, results_run hT hF hH e hc, h⟩
end
end Go.Sep
