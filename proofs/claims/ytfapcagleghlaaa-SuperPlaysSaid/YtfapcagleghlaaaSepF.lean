/- Single operations that act: calls, new blocks, made and grown slices, slicing. -/
import Derived.Laws.AppendOwn
import Derived.Laws.MakeOwn
import Derived.Test.YtfapcagleghlaaaSepE
set_option linter.all false
namespace Go.Sep
open Go

/-- A function that has a body. -/
def IsFun (P : Program) (f : Nat) : Prop := ∃ fn, P.funcs[f]? = some fn ∧ fn.body.isNone = false ∧ (fn.name == "runtime.NumGoroutine") = false
theorem callFunc_run {P : Program} {f : Nat} (h : IsFun P f) (args : Array Value) (w : World) : (callFunc f args).run P w = .ok (.enter f args) w := by
  obtain ⟨fn, h1, h2, h3⟩ := h
  simp only [callFunc, Sem.run_bind, run_program, Result.andThen_ok, h1, h3, h2, Bool.false_eq_true, if_false]
  rfl
def lookL (L : Fs) : List Operand → Option (List Value)
  | [] => some []
  | x :: xs => match look L x, lookL L xs with
    | some v, some vs => some (v :: vs)
    | _, _ => none
theorem lookL_eq {L : Fs} {ρ : Operand → Value} (hρ : Sees ρ L) : ∀ (xs : List Operand) (vs : List Value), lookL L xs = some vs → xs.map ρ = vs := by
  intro xs
  induction xs with
  | nil => intro vs h; simp only [lookL, Option.some.injEq] at h; subst h; rfl
  | cons x xs ih =>
    intro vs h
    simp only [lookL] at h
    split at h
    · rename_i v us hv hus
      simp only [Option.some.injEq] at h
      subst h
      simp [hρ _ _ hv, ih _ hus]
    · cases h

/-- An owned slice: nil, or at the head of a row of its own; 'm' elements of 'sz' cells: 'cs'. -/
def osl (v : Value) (E sz m : Nat) (cs : List Value) : HP := fun h =>
  cs.length = m * sz ∧ ((v = .slice none 0 0 ∧ m = 0) ∨
    ∃ b cap cur, v = .slice (some ⟨b, 0, none⟩) m cap ∧ m ≤ cap ∧ cap ≤ maxLen ∧ cur.size = cap * sz ∧ cur.toList.take (m * sz) = cs ∧ h b = some (.cells cur E (0, 0)))
section
variable {P : Program} {T : List (Nat × TI)} {κ : K} {n : Nat} {C : List HP} {Q : Exit → Act → World → Prop} {a : Act} {w : World} {L : Fs} {o : Oper} {K : Act → World → Prop} {d : Nat}

theorem osl_nil (E sz : Nat) (h : Hp κ w C) : Hp κ w (osl (.slice none 0 0) E sz 0 [] :: C) :=
  ⟨h.os, h.tape, h.output, h.imm, fun _ => none, κ.mh w, fun _ => .inl ⟨rfl, rfl⟩, ⟨by simp, .inl ⟨rfl, rfl⟩⟩, h.sat⟩
theorem osl_len {v : Value} {E sz m : Nat} {cs : List Value} (h : Hp κ w (osl v E sz m cs :: C)) : cs.length = m * sz := by
  obtain ⟨h1, h2, s, ⟨e, _⟩, hC⟩ := h.sat
  exact e
theorem osl_cases {v : Value} {E sz m : Nat} {cs : List Value} (h : Hp κ w (osl v E sz m cs :: C)) :
    (v = .slice none 0 0 ∧ m = 0 ∧ cs = [] ∧ Hp κ w C) ∨ ∃ b cap cur, v = .slice (some ⟨b, 0, none⟩) m cap ∧ m ≤ cap ∧ cap ≤ maxLen ∧ cur.length = cap * sz ∧ cur.take (m * sz) = cs ∧ Hp κ w (row b cur E :: C) := by
  obtain ⟨h1, h2, s, ⟨e, hh⟩, hC⟩ := h.sat
  rcases hh with ⟨rfl, rfl⟩ | ⟨b, cap, cur, rfl, h3, h4, h5, h6, h7⟩
  · exact .inl ⟨rfl, rfl, List.eq_nil_of_length_eq_zero (by simpa using e), h.tail⟩
  · refine .inr ⟨b, cap, cur.toList, rfl, h3, h4, by simpa using h5, h6, h.os, h.tape, h.output, h.imm, h1, h2, s, ?_, hC⟩
    show h1 b = some (.cells cur.toList.toArray E (0, 0))
    simpa using h7
theorem osl_mk {b E sz m cap : Nat} {cs cur : List Value} (h : Hp κ w (row b cur E :: C)) (h3 : m ≤ cap) (h4 : cap ≤ maxLen) (h5 : cur.length = cap * sz) (h6 : cur.take (m * sz) = cs) :
    Hp κ w (osl (.slice (some ⟨b, 0, none⟩) m cap) E sz m cs :: C) := by
  obtain ⟨h1, h2, s, hr, hC⟩ := h.sat
  refine ⟨h.os, h.tape, h.output, h.imm, h1, h2, s, ⟨?_, .inr ⟨b, cap, cur.toArray, rfl, h3, h4, by simpa using h5, by simpa using h6, hr⟩⟩, hC⟩
  rw [← h6, List.length_take, h5]
  have := Nat.mul_le_mul_right sz h3
  omega
theorem row_at {b t off : Nat} {cs vs : List Value} (h : Hp κ w (row b cs t :: C)) (e : ∀ j v, vs[j]? = some v → cs[off + j]? = some v) : At w ⟨b, off, vs⟩ :=
  ⟨_, _, _, h.ptr, fun j v hv => by simpa using e j v hv⟩
theorem osl_at {b E sz m cap : Nat} {cs : List Value} (h : Hp κ w (osl (.slice (some ⟨b, 0, none⟩) m cap) E sz m cs :: C)) {off : Nat} {vs : List Value} (e : ∀ j v, vs[j]? = some v → cs[off + j]? = some v) : At w ⟨b, off, vs⟩ := by
  rcases osl_cases h with ⟨h1, _⟩ | ⟨b', cap', cur, h1, _, _, _, h6, hr⟩
  · cases h1
  · simp only [Value.slice.injEq, Option.some.injEq, Addr.mk.injEq] at h1
    obtain ⟨⟨rfl, _⟩, _⟩ := h1
    refine row_at hr fun j v hv => ?_
    have := e j v hv
    rw [← h6, List.getElem?_take] at this
    split at this
    · exact this
    · cases this

theorem put_of (hF : Fr n a L) (hd : o.dst = some d) (hn : Nat.blt d n = true) (v : Value) : Fr n (a.put o.dst v) ((d, v) :: L) := by rw [hd]; exact hF.put hn v

/-- A call, of a function or of a closure. -/
theorem op_call {f : Operand} {args : List Operand} {tys : Array Nat} {g : Nat} {fi ca : Array Value} {vs vs' : List Value} {Rr : Ending → World → Prop}
    (hF : Fr n a L) (ho : o.op = .call ⟨.value f, args.toArray, tys⟩) (hd : o.dst = some d) (hn : Nat.blt d n = true) (hf : look L f = some (.func (.func g) fi ca)) (ha : lookL L args = some vs)
    (hA : fi.toList ++ vs ++ ca.toList = vs') (hfn : IsFun P g) (hc : Calls P g vs'.toArray w Rr) (k : ∀ e w', Rr e w' → ∃ v, e = .returned v ∧ ∀ a', Fr n a' ((d, v) :: L) → K a' w') : o.wp P a w K Q := by
  have h1 := lookL_eq hF.sees _ _ ha
  have hrun : (execOp a.eval o).run P w = .ok (.enter g vs'.toArray) w := by
    have e : fi ++ vs.toArray ++ ca = vs'.toArray := by subst hA; apply Array.ext'; simp
    have hev := hF.eval hf
    unfold execOp
    simp only [ho, resolve, hev, Deferred.ofValue, List.map_toArray, h1, Sem.run_bind, Sem.run_pure, Result.andThen_ok, invoke, e, callFunc_run hfn]
  unfold Oper.wp
  rw [hrun]
  refine hc.mono fun e w' he => ?_
  obtain ⟨v, rfl, hk⟩ := k e w' he
  exact hk _ (put_of hF hd hn v)

theorem forced {l cs : List Value} (h : force l some = some cs) : l = cs := by rw [force_eq] at h; simpa using h
theorem op_alloc {t : Nat} {ti : TI} {cs : List Value} (hF : Fr n a L) (hT : Tab P T) (ho : o.op = .alloc t) (hd : o.dst = some d) (hn : Nat.blt d n = true) (hti : lkT T t = some ti) (hz : force (cellsL ti.zero) some = some cs)
    (hH : Hp κ w C) (k : ∀ b a' w', Fr n a' ((d, .pointer (some ⟨b, 0, none⟩)) :: L) → Hp κ w' (row b cs t :: C) → K a' w') : o.wp P a w K Q := by
  have hz := forced hz
  unfold Oper.wp
  have hrun : (execOp a.eval o).run P w = .ok (.value (.pointer (some ⟨w.heap.size, 0, none⟩))) (w.alloc (.cells cs.toArray t)) := by
    have e : ti.zero.cells = cs.toArray := by rw [← hz, cellsL_eq]
    simp [execOp, ho, Instr.alloc, (hT.get hti).run_zero, newVar, newRow, e]
  rw [hrun]
  exact k _ _ _ (put_of hF hd hn _) (hH.alloc _)
theorem op_box {t : Nat} {x : Operand} {v : Value} {cs : List Value} (hF : Fr n a L) (ho : o.op = .box t x) (hd : o.dst = some d) (hn : Nat.blt d n = true) (hx : look L x = some v) (hz : force (cellsL v) some = some cs)
    (hH : Hp κ w C) (k : ∀ b a' w', Fr n a' ((d, .pointer (some ⟨b, 0, none⟩)) :: L) → Hp κ w' (row b cs t :: C) → K a' w') : o.wp P a w K Q := by
  have hz := forced hz
  unfold Oper.wp
  have hrun : (execOp a.eval o).run P w = .ok (.value (.pointer (some ⟨w.heap.size, 0, none⟩))) (w.alloc (.cells cs.toArray t)) := by
    have e : v.cells = cs.toArray := by rw [← hz, cellsL_eq]
    have hev := hF.eval hx
    unfold execOp
    simp only [ho, hev]
    simp [Instr.box, newVar, newRow, e]
  rw [hrun]
  exact k _ _ _ (put_of hF hd hn _) (hH.alloc _)

theorem flat_get (z : List Value) (hz : 0 < z.length) : ∀ (len i : Nat), i < len * z.length → (List.replicate len z).flatten[i]? = z[i % z.length]? := by
  intro len
  induction len with
  | zero => intro i h; simp at h
  | succ len ih =>
    intro i h
    rw [List.replicate_succ, List.flatten_cons]
    by_cases hi : i < z.length
    · rw [List.getElem?_append_left hi, Nat.mod_eq_of_lt hi]
    · rw [List.getElem?_append_right (by omega), ih _ (by rw [Nat.succ_mul] at h; omega)]
      congr 1
      conv => rhs; rw [show i = (i - z.length) + z.length from by omega, Nat.add_mod_right]
theorem made_flat (z : Array Value) (hz : 0 < z.size) (len : Nat) : madeCells z (len * z.size) = (List.replicate len z.toList).flatten.toArray := by
  apply Array.ext'
  apply List.ext_getElem?
  intro i
  have hl : ((List.replicate len z.toList).flatten).length = len * z.size := by simp
  by_cases h : i < len * z.size
  · rw [show ((List.replicate len z.toList).flatten.toArray).toList = (List.replicate len z.toList).flatten from rfl, flat_get z.toList (by simpa using hz) len i (by simpa using h)]
    have hm : i % z.size < z.size := Nat.mod_lt _ hz
    simp [madeCells, h, hm]
  · rw [List.getElem?_eq_none (by simp [madeCells]; omega), List.getElem?_eq_none (by simp only [List.toList_toArray, hl]; omega)]
def zok (ti : TI) : Bool := Nat.beq (cellsL ti.zero).length ti.size && Nat.blt 0 ti.size
theorem zok_spec {ti : TI} (h : zok ti = true) : ti.zero.cells.size = ti.size ∧ 0 < ti.size := by
  simp only [zok, Bool.and_eq_true] at h
  have h1 := Nat.eq_of_beq_eq_true h.1
  rw [cellsL_eq] at h1
  exact ⟨by simpa using h1, Nat.le_of_ble_eq_true h.2⟩
def bsl (L : Fs) (te : TI) (len : Nat) (parts : List (Nat × Operand)) : Option (List Value) :=
  lookParts L parts fun ps => match fillL (fun i => some (i * te.size, te.size)) ((List.replicate len (cellsL te.zero)).flatten) ps with
    | some l => force l some
    | none => none
theorem op_buildSlice {t e len : Nat} {parts : Array (Nat × Operand)} {te : TI} {cs : List Value} {s1 b1 : Nat} {z1 : Value} (hF : Fr n a L) (hT : Tab P T) (ho : o.op = .buildSlice t len parts) (hd : o.dst = some d) (hn : Nat.blt d n = true)
    (ht : lkT T t = some ⟨.slice e, s1, b1, z1⟩) (hte : lkT T e = some te) (hz : zok te = true) (hlen : Nat.ble (len * te.size) 16777216 = true) (hb : bsl L te len parts.toList = some cs)
    (hH : Hp κ w C) (k : ∀ b a' w', Fr n a' ((d, .slice (some ⟨b, 0, none⟩) len len) :: L) → Hp κ w' (row b cs e :: C) → K a' w') : o.wp P a w K Q := by
  obtain ⟨hz1, hz2⟩ := zok_spec hz
  have h1 := lookParts_eq hF.sees _ _ _ hb
  split at h1
  · rename_i l hl
    have h1 := forced h1
    subst h1
    have hf := fillL_eq _ _ _ _ hl
    have hlen := Nat.le_of_ble_eq_true hlen
    have hrun : (execOp a.eval o).run P w = .ok (.value (.slice (some ⟨w.heap.size, 0, none⟩) len len)) (w.alloc (.cells l.toArray e)) := by
      have e2 : (parts.map fun x => (x.1, a.eval x.2)).toList = parts.toList.map fun x => (x.1, a.eval x.2) := by simp
      have hm := made_flat te.zero.cells (by omega) len
      rw [hz1] at hm
      rw [← cellsL_eq] at hm
      have hn : ¬ (2 ^ 24 < len * te.size) := by omega
      have key : (Instr.buildSlice t len (parts.map fun x => (x.1, a.eval x.2))).run P w = .ok (.slice (some ⟨w.heap.size, 0, none⟩) len len) (w.alloc (.cells l.toArray e)) := by
        by_cases h0 : len * te.size = 0
        · have hl0 : len = 0 := by
            rcases Nat.mul_eq_zero.1 h0 with h | h <;> omega
          subst hl0
          simp only [List.replicate_zero, List.flatten_nil] at hf
          simp [Instr.buildSlice, run_underlying (hT.get ht).slice, (hT.get hte).run_size, newRow]
          have e3 : (Array.map (fun _ => (default : Value)) (Array.range 0)) = #[] := by simp
          rw [e3, hf]
          simp
        · have hmm : (Array.range (len * te.size)).map (fun x => te.zero.cells[x % te.zero.cells.size]!) = (List.replicate len (cellsL te.zero)).flatten.toArray := hm
          simp only [Instr.buildSlice, Sem.run_bind, run_underlying (hT.get ht).slice, Result.andThen_ok, (hT.get hte).run_size, gt_iff_lt, if_neg hn, if_neg h0, (hT.get hte).run_zero, Sem.run_pure, hmm, e2, hf]
          simp [newRow]
      unfold execOp
      simp only [ho]
      simp only [Sem.run_bind]
      rw [show (fun (x : Nat × Operand) => match x with | (i, x) => (i, a.eval x)) = fun x => (x.1, a.eval x.2) from rfl, key]
      rfl
    unfold Oper.wp
    rw [hrun]
    exact k _ _ _ (put_of hF hd hn _) (hH.alloc _)
  · cases h1
theorem op_make {t e : Nat} {x y : Operand} {te : TI} {m : Nat} {kl kc : IntKind} {s1 b1 : Nat} {z1 : Value} (hF : Fr n a L) (hT : Tab P T) (ho : o.op = .makeSlice t x y) (hd : o.dst = some d) (hn : Nat.blt d n = true)
    (ht : lkT T t = some ⟨.slice e, s1, b1, z1⟩) (hte : lkT T e = some te) (hz : zok te = true) (hx : look L x = some (.int kl m)) (hy : look L y = some (.int kc m)) (hm : m ≤ maxLen) (hby : te.bytes * m ≤ 281474976710656)
    (hH : Hp κ w C) (k : ∀ b a' w', Fr n a' ((d, .slice (some ⟨b, 0, none⟩) m m) :: L) → Hp κ w' (row b (List.replicate m (cellsL te.zero)).flatten e :: C) → K a' w') : o.wp P a w K Q := by
  obtain ⟨hz1, hz2⟩ := zok_spec hz
  obtain ⟨dd, j, h1, h2, h3, h4, h5, h6⟩ := (hT.get hte).out
  have hm' : (m : Int) ≤ 9223372036854775807 := by have h := hm; simp [maxLen] at h; omega
  have hb' : (j.bytes : Int) * (m : Int) ≤ 281474976710656 := by
    have h : ((te.bytes * m : Nat) : Int) ≤ 281474976710656 := by omega
    rw [h5]; rwa [Int.natCast_mul] at h
  have hr := run_make (P := P) w t e j te.zero (hT.get ht).slice h3 h6 kl kc m m (by omega) (Int.le_refl _) hb' hm'
  have hf := made_flat te.zero.cells (by omega) m
  rw [hz1, ← cellsL_eq] at hf
  simp only [Int.toNat_natCast, h4, hf] at hr
  unfold Oper.wp
  have hrun : (execOp a.eval o).run P w = .ok (.value (.slice (some ⟨w.heap.size, 0, none⟩) m m)) (w.alloc (.cells (List.replicate m (cellsL te.zero)).flatten.toArray e)) := by
    have hev := hF.eval hx
    have hev2 := hF.eval hy
    unfold execOp
    simp only [ho, hev, hev2, Sem.run_bind, hr]
    rfl
  rw [hrun]
  exact k _ _ _ (put_of hF hd hn _) (hH.alloc _)
/-- append. -/
theorem op_append {s x : Operand} {t e m c xb xo k : Nat} {te : TI} {v : Value} {cs news : List Value} {s1 b1 : Nat} {z1 : Value} (hF : Fr n a L) (hT : Tab P T) (ho : o.op = .call ⟨.builtin .append, #[s, x], #[t, t]⟩) (hd : o.dst = some d) (hn : Nat.blt d n = true)
    (ht : lkT T t = some ⟨.slice e, s1, b1, z1⟩) (hte : lkT T e = some te) (hz : zok te = true) (hs : look L s = some v) (hx : look L x = some (.slice (some ⟨xb, xo, none⟩) m c))
    (hH : Hp κ w (osl v e te.size k cs :: C)) (hat : At w ⟨xb, xo, news⟩) (hl : news.length = m * te.size) (h1 : allC news = true) (h63 : k + m ≤ maxLen) (hby : (k + m) * te.bytes ≤ 140737488355328)
    (kk : ∀ v' a' w', Fr n a' ((d, v') :: L) → Hp κ w' (osl v' e te.size (k + m) (cs ++ news) :: C) → K a' w') : o.wp P a w K Q := by
  obtain ⟨hz1, hz2⟩ := zok_spec hz
  obtain ⟨dd, j, _, h2, h3, h4, h5, h6⟩ := (hT.get hte).out
  have hu := (hT.get ht).slice
  have hsmall : k + m ≤ 9223372036854775807 := by have h := h63; simp only [maxLen] at h; omega
  have hnews : ∀ i u, news[i]? = some u → w.cell? ((⟨xb, xo, none⟩ : Addr).add i) = some u := fun i u hu => by
    obtain ⟨cs', tt, fr, hb, hc⟩ := hat
    rw [add_off]
    simp [World.cell?, hb, hc i u hu]
  have hlen := osl_len hH
  have hl' : news.length = m * j.size := by rw [hl, h4]
  have h1' := allC_mem h1
  have fin : ∀ v' w', (Builtin.append_ #[t, t] o.type #[v, .slice (some ⟨xb, xo, none⟩) m c]).run P w = .ok v' w' → Hp κ w' (osl v' e te.size (k + m) (cs ++ news) :: C) → o.wp P a w K Q := by
    intro v' w' hr hH'
    have hev := hF.eval hs
    have hev2 := hF.eval hx
    have hrun : (execOp a.eval o).run P w = .ok (.value v') w' := by
      unfold execOp
      simp only [ho, resolve, invoke, builtin, Sem.run_bind, Sem.run_pure, Result.andThen_ok, List.map_toArray, List.map_cons, List.map_nil, hev, hev2, hr]
    unfold Oper.wp
    rw [hrun]
    exact kk _ _ _ (put_of hF hd hn _) hH'
  have grow : ∀ old, old < k + m → Hp κ w C → Hp κ (w.drew.alloc (.cells (cs.toArray ++ news.toArray ++ Builtin.zeroCells te.zero.cells (grownCap w (k + m) old e - (k + m))) e)) (osl (.slice (some ⟨w.heap.size, 0, none⟩) (k + m) (grownCap w (k + m) old e)) e te.size (k + m) (cs ++ news) :: C) := by
    intro old ho hC
    have hge := grownCap_ge w (k + m) old e
    have hcm := grownCap_le_maxLen w (k + m) old e h63
    have hH1 := (hC.drew).alloc (.cells (cs.toArray ++ news.toArray ++ Builtin.zeroCells te.zero.cells (grownCap w (k + m) old e - (k + m))) e)
    refine osl_mk (cur := cs ++ news ++ (Builtin.zeroCells te.zero.cells (grownCap w (k + m) old e - (k + m))).toList) ?_ hge hcm ?_ ?_
    · have e3 : (cs ++ news ++ (Builtin.zeroCells te.zero.cells (grownCap w (k + m) old e - (k + m))).toList).toArray = cs.toArray ++ news.toArray ++ Builtin.zeroCells te.zero.cells (grownCap w (k + m) old e - (k + m)) := by
        apply Array.ext'; simp
      unfold row
      rw [e3]
      exact hH1
    · simp only [List.length_append, hlen, hl, Array.length_toList, size_zeroCells, hz1, ← Nat.add_mul]
      congr 1
      omega
    · rw [show (k + m) * te.size = (cs ++ news).length from by rw [List.length_append, hlen, hl, Nat.add_mul]]
      exact List.take_left
  rcases osl_cases hH with ⟨rfl, rfl, rfl, hC⟩ | ⟨b, cap, cur, rfl, g3, g4, g5, g6, hR⟩
  · by_cases hm : m = 0
    · subst hm
      have hne : news = [] := List.eq_nil_of_length_eq_zero (by simpa using hl)
      subst hne
      refine fin (.slice none 0 0) w ?_ (osl_nil e te.size hC)
      simp [Builtin.append_, run_underlying hu, sizeOf, typeInfo, h3, Builtin.lenOf, Builtin.firstCells, loadCells, loadCellsFrom]
    · have hr := run_append_nil (P := P) w t o.type e j te.zero hu h3 h6 ⟨xb, xo, none⟩ m c news hl' hnews (by omega) (by omega) (by rw [h5]; simp only [Nat.zero_add] at hby; omega)
      have := grow 0 (by omega) hC
      simp only [Nat.zero_add, List.nil_append, Array.empty_append] at this ⊢
      refine fin _ _ hr ?_
      simpa using this
  · by_cases hroom : k + m ≤ cap
    · have hfit : k * j.size + news.length ≤ cur.toArray.size := by
        rw [hl, h4, ← Nat.add_mul]; simp only [List.size_toArray, g5]; exact Nat.mul_le_mul_right _ hroom
      have hr := run_append_room (P := P) w t o.type e j hu h3 b k cap cur.toArray hR.ptr ⟨xb, xo, none⟩ m c news hl' hnews h1' hroom hfit
      refine fin _ _ hr ?_
      have hp := hR.ptr
      have hH1 := hR.set (w' := w.setRow b (cur.toArray.toList.take (k * j.size) ++ news ++ cur.toArray.toList.drop (k * j.size + news.length)).toArray) rfl rfl rfl (setRow_heap w b cur.toArray _ e _ hp) (fun i hi => setRow_other w b i _ hi)
      simp only [h4, List.toList_toArray] at hH1 ⊢
      refine osl_mk hH1 hroom g4 ?_ ?_
      · have e1 := Nat.mul_le_mul_right te.size hroom
        have e2 := Nat.mul_le_mul_right te.size g3
        have e3 : (k + m) * te.size = k * te.size + m * te.size := Nat.add_mul ..
        simp only [List.length_append, List.length_take, List.length_drop, g5, hl, Nat.min_eq_left e2]
        omega
      · rw [g6, show (k + m) * te.size = (cs ++ news).length from by rw [List.length_append, hlen, hl, Nat.add_mul]]
        exact List.take_left
    · have holds : ∀ i u, cs[i]? = some u → w.cell? ((⟨b, 0, none⟩ : Addr).add i) = some u := fun i u hu => by
        rw [add_off]
        have hp := hR.ptr
        rw [cell_of_row' hp]
        rw [← g6, List.getElem?_take] at hu
        split at hu
        · simpa using hu
        · cases hu
      have hr := run_append_grow (P := P) w t o.type e j te.zero hu h3 h6 ⟨b, 0, none⟩ k cap cs (by rw [hlen, h4]) holds ⟨xb, xo, none⟩ m c news hl' hnews (by omega) (by omega) (by rw [h5]; exact growslice_fits (by omega) hby)
      exact fin _ _ hr (grow cap (by omega) hR.tail)
end
end Go.Sep
