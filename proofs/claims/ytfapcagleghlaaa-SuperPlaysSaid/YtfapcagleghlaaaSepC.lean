/- Loads and stores on known blocks, and regions of operations, told by the evaluator. -/
import Derived.Test.YtfapcagleghlaaaSepB
set_option linter.all false
namespace Go.Sep
open Go

structure Row where
  b : Nat
  cs : List Value
  t : Nat
abbrev Mem := List Row
def row (b : Nat) (cs : List Value) (t : Nat) : HP := pt b (.cells cs.toArray t (0, 0))
def ptsOf (M : Mem) : List HP := M.map fun r => row r.b r.cs r.t
/-- A block that is read alone. -/
def RO (κ : K) (b : Nat) (cs : List Value) : Prop := ∃ t fr, κ.imm b = some (.cells cs.toArray t fr)
theorem RO.mono {κ κ' : K} {b : Nat} {cs : List Value} (h : RO κ b cs) (l : κ.le κ') : RO κ' b cs := let ⟨t, fr, e⟩ := h; ⟨t, fr, l.imm _ _ e⟩
/-- Cells that lie at a place. -/
structure LF where
  b : Nat
  off : Nat
  vs : List Value
def At (w : World) (f : LF) : Prop := ∃ cs t fr, w.heap[f.b]? = some (.cells cs t fr) ∧ ∀ j v, f.vs[j]? = some v → cs[f.off + j]? = some v
/-- Such cells lie there wherever the blocks X are kept. -/
def LFok (κ : K) (X : List HP) (F : List LF) : Prop := ∀ f ∈ F, ∀ κ' w, κ.le κ' → Hp κ' w X → At w f
theorem LFok.nil (κ : K) (X : List HP) : LFok κ X [] := fun _ h => by cases h
theorem LFok.cons {κ : K} {X : List HP} {f : LF} {F : List LF} (h : ∀ κ' w, κ.le κ' → Hp κ' w X → At w f) (k : LFok κ X F) : LFok κ X (f :: F) := fun g hg => by
  rcases List.mem_cons.1 hg with rfl | hg
  · exact h
  · exact k g hg
theorem LFok.mono {κ κ' : K} {X : List HP} {F : List LF} (h : LFok κ X F) (l : κ.le κ') : LFok κ' X F := fun f hf κ2 w l2 hH => h f hf κ2 w (l.trans l2) hH
theorem At.ro {κ : K} {X : List HP} {b off : Nat} {cs vs : List Value} (h : RO κ b cs) (e : ∀ j v, vs[j]? = some v → cs[off + j]? = some v) : ∀ κ' w, κ.le κ' → Hp κ' w X → At w ⟨b, off, vs⟩ := by
  intro κ' w l hH
  obtain ⟨t, fr, hi⟩ := h.mono l
  exact ⟨_, _, _, hH.imm _ _ hi, fun j v hv => by simpa using e j v hv⟩
theorem At.own {κ : K} {X : List HP} {b off : Nat} {cs vs : List Value} {t : Nat} (i : Nat) (h : X[i]? = some (row b cs t)) (e : ∀ j v, vs[j]? = some v → cs[off + j]? = some v) : ∀ κ' w, κ.le κ' → Hp κ' w X → At w ⟨b, off, vs⟩ := by
  intro κ' w _ hH
  have hk := hH.focus i h
  exact ⟨_, _, _, hk.ptr, fun j v hv => by simpa using e j v hv⟩

def setM : Mem → Nat → List Value → Mem
  | [], _, _ => []
  | r :: M, 0, cs => ⟨r.b, cs, r.t⟩ :: M
  | r :: M, i + 1, cs => r :: setM M i cs
def oneC : Value → Bool
  | .agg _ | .tuple _ => false
  | _ => true
def allC : List Value → Bool
  | [] => true
  | v :: vs => oneC v && allC vs

def ldv {α : Type} (T : List (Nat × TI)) (t : Nat) (cs : List Value) (off : Nat) (k : Value → Option α) : Option α :=
  match lkT T t with
  | some ti => bif isAggK ti.kind then force (cutL cs off ti.size) fun l => bif Nat.beq l.length ti.size then k (.agg l.toArray) else none
    else match cs[off]? with
      | some v => k v
      | none => none
  | none => none

def ev (T : List (Nat × TI)) (F : List LF) (L : Fs) (M : Mem) (h : Nat) : Op → Option (Value × List Prop × Mem)
  | .load t x => match look L x with
    | some (.pointer (some ⟨b, off, none⟩)) => (match h % 2 with
      | 0 => (match M[h / 2]? with
        | some r => ldv T t r.cs off fun v => some (v, [b = r.b], M)
        | none => none)
      | _ => (match F[h / 2]? with
        | some r => ldv T t r.vs 0 fun v => some (v, [b = r.b ∧ off = r.off], M)
        | none => none))
    | _ => none
  | .store t x y => match look L x, look L y, lkT T t with
    | some (.pointer (some ⟨b, off, none⟩)), some v, some ti => (match M[h]? with
      | some r => bif Nat.beq (cellsL v).length ti.size && Nat.ble (off + (cellsL v).length) r.cs.length && allC (cellsL v) then
          force (putL r.cs off (cellsL v)) fun cs => some (undef, [b = r.b], setM M h cs) else none
      | none => none)
    | _, _, _ => none
  | op => match pv T L h op with
    | some (v, c) => some (v, c, M)
    | none => none

def gd (dsts : List (Option Nat)) (L : Fs) : Option (Nat × Bool) → Option Bool
  | none => some true
  | some (j, want) => match dsts[j]? with
    | some (some s) => (match lk L s with
      | some (.bool true) => some want
      | some (.bool false) => some (!want)
      | some (.tuple _) => some false
      | _ => none)
    | _ => none
def putF (n : Nat) : Option Nat → Value → Fs → Option Fs
  | none, _, L => some L
  | some d, v, L => bif Nat.blt d n then some ((d, v) :: L) else none

def evN (T : List (Nat × TI)) (F : List LF) (n : Nat) (dsts : List (Option Nat)) : List Nat → List Oper → Fs → Mem → List Prop → Option (Fs × Mem × List Prop × List Oper)
  | [], l, L, M, c => some (L, M, c, l)
  | _ :: _, [], _, _, _ => none
  | h :: hs, o :: l, L, M, c => match gd dsts L o.guard with
    | some true => (match ev T F L M h o.op with
      | some (v, c1, M1) => (match putF n o.dst v L with
        | some L1 => (match c1 with
          | [] => evN T F n dsts hs l L1 M1 c
          | [x] => evN T F n dsts hs l L1 M1 (x :: c)
          | _ => none)
        | none => none)
      | none => none)
    | some false => (match putF n o.dst undef L with
      | some L1 => evN T F n dsts hs l L1 M c
      | none => none)
    | none => none

theorem gd_wanted {ops : Array Oper} {L : Fs} {n : Nat} {a : Act} (hF : Fr n a L) {o : Oper} {b : Bool} (h : gd (ops.toList.map (·.dst)) L o.guard = some b) : Region.wanted o (yielded ops a.tmps) = b := by
  unfold gd at h
  unfold Region.wanted
  split at h
  · rename_i hg; rw [hg]; simp at h; simp [h]
  · rename_i j want hg
    rw [hg]
    simp only
    split at h
    · rename_i s hs
      have hy : (ops[j]?.bind fun x => x.dst) = some s := by
        simp at hs
        obtain ⟨o', ho', hs'⟩ := hs
        simp [ho', hs']
      unfold yielded
      split at h
      · rename_i hl
        have := hF.get _ _ hl
        simp only [hy, Option.bind_some, this]
        simp only [Option.some.injEq] at h; rw [← h]; cases want <;> rfl
      · rename_i hl
        have := hF.get _ _ hl
        simp only [hy, Option.bind_some, this]
        simp only [Option.some.injEq] at h; rw [← h]; cases want <;> rfl
      · rename_i hl
        have := hF.get _ _ hl
        simp only [hy, Option.bind_some, this]
        simp only [Option.some.injEq] at h; rw [← h]; rfl
      · cases h
    · cases h
theorem putF_fr {n : Nat} {a : Act} {L L' : Fs} {d : Option Nat} {v : Value} (hF : Fr n a L) (h : putF n d v L = some L') : Fr n (a.put d v) L' := by
  unfold putF at h
  split at h
  · simp at h; subst h; exact hF.put0 _
  · rw [cond_eq_ite] at h
    split at h
    · rename_i hb
      simp at h; subst h; exact hF.put hb _
    · cases h

theorem ptsOf_get {M : Mem} {i : Nat} {r : Row} (h : M[i]? = some r) (C : List HP) : (ptsOf M ++ C)[i]? = some (row r.b r.cs r.t) := by
  have hi : i < M.length := by
    rcases Nat.lt_or_ge i M.length with g | g
    · exact g
    · rw [List.getElem?_eq_none g] at h; cases h
  rw [List.getElem?_append_left (by simpa [ptsOf] using hi)]
  simp [ptsOf, h]
theorem setM_eq (M : Mem) : ∀ (i : Nat) (r : Row) (cs : List Value), M[i]? = some r → setM M i cs = M.set i ⟨r.b, cs, r.t⟩ := by
  induction M with
  | nil => intro i r cs h; simp at h
  | cons r0 M ih =>
    intro i r cs h
    cases i with
    | zero => simp at h; subst h; rfl
    | succ i => simp at h; simp [setM, ih i r cs h]
theorem Hp.set_at {κ : K} {w w' : World} {C : List HP} {i b : Nat} {o o' : Obj} (h : Hp κ w C) (hi : C[i]? = some (pt b o)) (e1 : w'.os = w.os) (e2 : w'.tape = w.tape) (e3 : w'.output = w.output)
    (hb : w'.heap[b]? = some o') (hne : ∀ j, j ≠ b → w'.heap[j]? = w.heap[j]?) : Hp κ w' (C.set i (pt b o')) := by
  have h1 := (h.focus i hi).set e1 e2 e3 hb hne
  refine h1.perm ?_
  have hi' : i < C.length := by
    rcases Nat.lt_or_ge i C.length with g | g
    · exact g
    · rw [List.getElem?_eq_none g] at hi; cases hi
  have := perm_focus i (C.set i (pt b o')) (p := pt b o') (by simp [hi'])
  have e : (C.set i (pt b o')).eraseIdx i = C.eraseIdx i := by
    rw [List.eraseIdx_set_eq]
  rw [e] at this
  exact this.symm
theorem cell_of_row' {w : World} {b : Nat} {cs : List Value} {t : Nat} {fr : Nat × Nat} (h : w.heap[b]? = some (.cells cs.toArray t fr)) (i : Nat) : w.cell? ⟨b, i, none⟩ = cs[i]? := by
  simp [World.cell?, h]
theorem ldv_at {α : Type} {P : Program} {T : List (Nat × TI)} (hT : Tab P T) {t : Nat} {cs : List Value} {off off' : Nat} {k : Value → Option α} {r : α} (e : ldv T t cs off k = some r)
    {w : World} {b : Nat} {ds : Array Value} {tt : Nat} {fr : Nat × Nat} (hb : w.heap[b]? = some (.cells ds tt fr)) (hd : ∀ j v, cs[off + j]? = some v → ds[off' + j]? = some v) :
    ∃ v, k v = some r ∧ (loadVar t ⟨b, off', none⟩).run P w = .ok v w := by
  have hcell : ∀ j v, cs[off + j]? = some v → w.cell? ⟨b, off' + j, none⟩ = some v := fun j v hv => by
    simp [World.cell?, hb]; exact hd j v hv
  unfold ldv at e
  split at e
  · rename_i ti hti
    obtain ⟨d, j, hd, hk, hj, hsz, _⟩ := (hT.get hti).out
    rw [cond_eq_ite] at e
    split at e
    · rename_i hagg
      rw [force_eq, cond_eq_ite] at e
      split at e
      · rename_i hl
        have hl := Nat.eq_of_beq_eq_true hl
        refine ⟨_, e, run_loadVar_mid w b off' t (cutL cs off ti.size) d (fun j v hv => ?_) hd ?_ ?_⟩
        · unfold cutL at hv
          rw [List.getElem?_take] at hv
          split at hv
          · rw [List.getElem?_drop] at hv; exact hcell j v hv
          · cases hv
        · rw [← hk] at hagg; cases d <;> simp [tk, isAggK] at hagg <;> rfl
        · simp [hj, hsz, hl]
      · cases e
    · rename_i hagg
      split at e
      · rename_i v hv
        refine ⟨v, e, ?_⟩
        have hc : w.cell? ⟨b, off', none⟩ = some v := by simpa using hcell 0 v (by simpa using hv)
        simp [loadVar, (hT.get hti).run_agg, hagg, hc]
      · cases e
  · cases e
theorem ldv_run {α : Type} {P : Program} {T : List (Nat × TI)} (hT : Tab P T) {t : Nat} {cs : List Value} {off : Nat} {k : Value → Option α} {r : α} (e : ldv T t cs off k = some r)
    {w : World} {b tt : Nat} {fr : Nat × Nat} (hb : w.heap[b]? = some (.cells cs.toArray tt fr)) : ∃ v, k v = some r ∧ (loadVar t ⟨b, off, none⟩).run P w = .ok v w :=
  ldv_at hT e hb (fun j v hv => by simpa using hv)
theorem setCells_same (b : Nat) (t : Nat) (fr : Nat × Nat) : ∀ (vs : List Value) (off : Nat) (w : World) (cs : List Value), w.heap[b]? = some (.cells cs.toArray t fr) →
    (w.setCells b off vs).heap[b]? = some (.cells ((putL cs off vs).toArray) t fr) ∧ (∀ i, i ≠ b → (w.setCells b off vs).heap[i]? = w.heap[i]?)
      ∧ (w.setCells b off vs).os = w.os ∧ (w.setCells b off vs).tape = w.tape ∧ (w.setCells b off vs).output = w.output := by
  intro vs
  induction vs with
  | nil => intro off w cs h; exact ⟨h, fun _ _ => rfl, rfl, rfl, rfl⟩
  | cons v vs ih =>
    intro off w cs h
    have h1 : (w.setCell ⟨b, off, none⟩ v).heap[b]? = some (.cells ((setL cs off v).toArray) t fr) := by
      simp [World.setCell, Array.getElem?_modify, h, setL_eq]
    obtain ⟨a1, a2, a3, a4, a5⟩ := ih (off + 1) _ _ h1
    refine ⟨a1, fun i hi => (a2 i hi).trans ?_, a3, a4, a5⟩
    simp only [World.setCell, Array.getElem?_modify]
    rw [if_neg (fun e => hi e.symm)]
theorem putL_length (vs : List Value) : ∀ (l : List Value) (n : Nat), (putL l n vs).length = l.length := by
  induction vs with
  | nil => intro l n; rfl
  | cons v vs ih => intro l n; simp [putL, ih, setL_eq]
theorem allC_mem {vs : List Value} (h : allC vs = true) : ∀ v ∈ vs, v.oneCell' = true := by
  induction vs with
  | nil => intro v hv; cases hv
  | cons u vs ih =>
    simp only [allC, Bool.and_eq_true] at h
    intro v hv
    rcases List.mem_cons.1 hv with rfl | hv
    · cases v <;> first | rfl | (simp [oneC] at h)
    · exact ih h.2 v hv
/-- A store of a value into a known block. -/
theorem stv_run {P : Program} {T : List (Nat × TI)} (hT : Tab P T) {t : Nat} {ti : TI} (hti : lkT T t = some ti) {cs : List Value} {off : Nat} {v : Value}
    (h1 : (cellsL v).length = ti.size) (h2 : off + (cellsL v).length ≤ cs.length) (h3 : allC (cellsL v) = true) {w : World} {b tt : Nat} (hb : w.heap[b]? = some (.cells cs.toArray tt (0, 0))) :
    (storeVar t ⟨b, off, none⟩ v).run P w = .ok () (w.setCells b off (cellsL v)) := by
  have hs : v.cells.size = ti.size := by rw [← h1, cellsL_eq]; simp
  have := run_storeCells_cells (P := P) b off (cellsL v) 0 w (fun j hj => by rw [cell_of_row' hb]; simp; omega)
    (fun j hj => by simp [World.frozen?, hb]) (allC_mem h3)
  simp only [Nat.add_zero] at this
  simp [storeVar, (hT.get hti).run_size, hs, ← cellsL_eq, this]

theorem sat_app {C : List HP} : ∀ (E : List HP) (g : Heap), sat (E ++ C) g → sat E g := by
  intro E
  induction E with
  | nil => intro g _; trivial
  | cons p E ih => intro g ⟨h1, h2, s, hp, hC⟩; exact ⟨h1, h2, s, hp, ih _ hC⟩
theorem Hp.app {κ : K} {w : World} {C : List HP} (E : List HP) (h : Hp κ w (E ++ C)) : Hp κ w E := ⟨h.os, h.tape, h.output, h.imm, sat_app E _ h.sat⟩
theorem Hp.app' {κ : K} {w : World} {E C : List HP} (h : Hp κ w (E ++ C)) : Hp κ w E := h.app E
theorem Hp.right {κ : K} {w : World} {C : List HP} (E : List HP) (h : Hp κ w (E ++ C)) : Hp κ w C := by
  induction E with
  | nil => exact h
  | cons p E ih => exact ih h.tail
/-- One operation: what it yields, and the blocks behind it. -/
theorem ev_run {P : Program} {T : List (Nat × TI)} (hT : Tab P T) {L : Fs} {ρ : Operand → Value} (hρ : Sees ρ L) {F : List LF} {κ : K} {w : World} {M M' : Mem} {X C : List HP}
    (hH : Hp κ w (ptsOf M ++ (X ++ C))) (hR : LFok κ X F) {h : Nat} {o : Oper} {v : Value} {c : List Prop} (e : ev T F L M h o.op = some (v, c, M')) (hc : All c) :
    ∃ w', ((execOp ρ o).run P w = .ok (.value v) w' ∨ (execOp ρ o).run P w = .ok .skip w' ∧ v = undef) ∧ Hp κ w' (ptsOf M' ++ (X ++ C)) := by
  unfold ev at e
  split at e
  · rename_i t x ho
    split at e
    · rename_i b off hx
      split at e
      · split at e
        · rename_i r hr
          have hk := hH.focus _ (ptsOf_get hr (X ++ C))
          unfold ldv at e
          have hb := hk.ptr
          obtain ⟨u, e2, hrun⟩ := ldv_run (k := fun v => some (v, [b = r.b], M)) hT (by unfold ldv; exact e) hb
          simp only [Option.some.injEq, Prod.mk.injEq] at e2
          obtain ⟨rfl, rfl, rfl⟩ := e2
          simp only [All, and_true] at hc
          subst hc
          exact ⟨w, .inl (by simp [execOp, ho, hρ _ _ hx, Instr.loadAt, Instr.sureAddr, hrun]), hH⟩
        · cases e
      · split at e
        · rename_i r hr
          obtain ⟨cs, tt, fr, hb, hcs⟩ := hR r (List.mem_of_getElem? hr) κ w (K.le.refl κ) (hH.right _).app'
          obtain ⟨u, e2, hrun⟩ := ldv_at (k := fun v => some (v, [b = r.b ∧ off = r.off], M)) hT e hb (fun j v hv => hcs j v (by simpa using hv))
          simp only [Option.some.injEq, Prod.mk.injEq] at e2
          obtain ⟨rfl, rfl, rfl⟩ := e2
          simp only [All, and_true] at hc
          obtain ⟨rfl, rfl⟩ := hc
          exact ⟨w, .inl (by simp [execOp, ho, hρ _ _ hx, Instr.loadAt, Instr.sureAddr, hrun]), hH⟩
        · cases e
    · cases e
  · rename_i t x y ho
    split at e
    · rename_i b off v' ti hx hy hti
      split at e
      · rename_i r hr
        rw [cond_eq_ite] at e
        split at e
        · rename_i hg
          rw [force_eq] at e
          simp only [Option.some.injEq, Prod.mk.injEq] at e
          obtain ⟨rfl, rfl, rfl⟩ := e
          simp only [All, and_true] at hc
          subst hc
          simp only [Bool.and_eq_true] at hg
          obtain ⟨⟨g1, g2⟩, g3⟩ := hg
          have g1 := Nat.eq_of_beq_eq_true g1
          have g2 := Nat.le_of_ble_eq_true g2
          have hk := hH.focus _ (ptsOf_get hr (X ++ C))
          have hb := hk.ptr
          have hrun := stv_run (P := P) hT hti g1 g2 g3 hb
          obtain ⟨a1, a2, a3, a4, a5⟩ := setCells_same r.b r.t (0, 0) (cellsL v') off w r.cs hb
          refine ⟨w.setCells r.b off (cellsL v'), .inr ⟨by simp [execOp, ho, hρ _ _ hx, hρ _ _ hy, Instr.storeAt, Instr.sureAddr, hrun], rfl⟩, ?_⟩
          have h2 := hH.set_at (ptsOf_get hr (X ++ C)) a3 a4 a5 a1 a2
          have e2 : (ptsOf M ++ (X ++ C)).set h (pt r.b (.cells (putL r.cs off (cellsL v')).toArray r.t (0, 0))) = ptsOf (setM M h (putL r.cs off (cellsL v'))) ++ (X ++ C) := by
            rw [setM_eq M h r _ hr]
            have hi : h < M.length := by
              rcases Nat.lt_or_ge h M.length with g | g
              · exact g
              · rw [List.getElem?_eq_none g] at hr; cases hr
            rw [List.set_append_left _ _ (by simpa [ptsOf] using hi)]
            simp [ptsOf, row, List.map_set]
          rw [e2] at h2
          exact h2
        · cases e
      · cases e
    · cases e
  · rename_i h1 h2
    split at e
    · rename_i v' c' hp
      simp only [Option.some.injEq, Prod.mk.injEq] at e
      obtain ⟨rfl, rfl, rfl⟩ := e
      exact ⟨w, .inl (pv_run hT hρ hp hc rfl w), hH⟩
    · cases e

theorem evN_all {T : List (Nat × TI)} {F : List LF} {n : Nat} {dsts : List (Option Nat)} : ∀ (hs : List Nat) (l : List Oper) (L : Fs) (M : Mem) (c : List Prop) (L' : Fs) (M' : Mem) (c' : List Prop) (l' : List Oper),
    evN T F n dsts hs l L M c = some (L', M', c', l') → All c' → All c := by
  intro hs
  induction hs with
  | nil => intro l L M c L' M' c' l' e hc; simp only [evN, Option.some.injEq, Prod.mk.injEq] at e; obtain ⟨_, _, rfl, _⟩ := e; exact hc
  | cons h hs ih =>
    intro l L M c L' M' c' l' e hc
    cases l with
    | nil => simp [evN] at e
    | cons o l =>
      simp only [evN] at e
      split at e
      · split at e
        · split at e
          · split at e
            · exact ih _ _ _ _ _ _ _ _ e hc
            · exact (ih _ _ _ _ _ _ _ _ e hc).2
            · cases e
          · cases e
        · cases e
      · split at e
        · exact ih _ _ _ _ _ _ _ _ e hc
        · cases e
      · cases e
/-- **A run of operations in a region that does not draw.** -/
theorem wpList_ev {P : Program} {T : List (Nat × TI)} (hT : Tab P T) {F : List LF} {κ : K} {X : List HP} (hR : LFok κ X F) {n : Nat} {ops : Array Oper} {C : List HP} {Q : Exit → Act → World → Prop} :
    ∀ (hs : List Nat) {l : List Oper} {L : Fs} {M : Mem} {c : List Prop} {L' : Fs} {M' : Mem} {c' : List Prop} {l' : List Oper} {a : Act} {w : World},
    Fr n a L → Hp κ w (ptsOf M ++ (X ++ C)) → evN T F n (ops.toList.map (·.dst)) hs l L M c = some (L', M', c', l') → All c' →
    (∀ a' w', Fr n a' L' → Hp κ w' (ptsOf M' ++ (X ++ C)) → wpList P ops Q l' a' w') → wpList P ops Q l a w := by
  intro hs
  induction hs with
  | nil =>
    intro l L M c L' M' c' l' a w hF hH e hc k
    simp only [evN, Option.some.injEq, Prod.mk.injEq] at e
    obtain ⟨rfl, rfl, _, rfl⟩ := e
    exact k a w hF hH
  | cons h hs ih =>
    intro l L M c L' M' c' l' a w hF hH e hc k
    cases l with
    | nil => simp [evN] at e
    | cons o l =>
      simp only [evN] at e
      have hin : ∀ (c1 : List Prop) (v : Value) (M1 : Mem) (L1 : Fs), ev T F L M h o.op = some (v, c1, M1) → putF n o.dst v L = some L1 → All c1 → gd (ops.toList.map (·.dst)) L o.guard = some true →
          (∀ a' w', Fr n a' L1 → Hp κ w' (ptsOf M1 ++ (X ++ C)) → wpList P ops Q l a' w') → wpList P ops Q (o :: l) a w := by
        intro c1 v M1 L1 he hp hc1 hg k1
        obtain ⟨w', hrun, hH'⟩ := ev_run (P := P) hT hF.sees hH hR he hc1
        unfold wpList
        rw [if_pos (gd_wanted hF hg)]
        left
        unfold Oper.wp
        rcases hrun with hrun | ⟨hrun, rfl⟩
        · rw [hrun]; exact k1 _ _ (putF_fr hF hp) hH'
        · rw [hrun]; exact k1 _ _ (putF_fr hF hp) hH'
      split at e
      · rename_i hg
        split at e
        · rename_i v c1 M1 he
          split at e
          · rename_i L1 hp
            split at e
            · exact hin _ _ _ _ he hp trivial hg fun a' w' hF' hH' => ih hF' hH' e hc k
            · have := evN_all _ _ _ _ _ _ _ _ _ e hc
              exact hin _ _ _ _ he hp ⟨this.1, trivial⟩ hg fun a' w' hF' hH' => ih hF' hH' e hc k
            · cases e
          · cases e
        · cases e
      · rename_i hg
        split at e
        · rename_i L1 hp
          unfold wpList
          rw [if_neg (by rw [gd_wanted hF hg]; simp)]
          exact ih (putF_fr hF hp) hH e hc k
        · cases e
      · cases e
end Go.Sep
