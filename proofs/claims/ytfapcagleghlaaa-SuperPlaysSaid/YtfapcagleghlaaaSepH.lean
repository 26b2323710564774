/- Slices that are read; stores into rows of whatever length; slicing. -/
import Derived.Test.YtfapcagleghlaaaSepG
set_option linter.all false
namespace Go.Sep
open Go

/-- The slice v reads as xs, each element by 'enc' of sz cells, wherever the blocks X are kept. -/
def Rd {α : Type} (κ : K) (X : List HP) (sz : Nat) (enc : α → List Value) (v : Value) (xs : List α) : Prop :=
  ((∃ A cap, v = .slice A 0 cap) ∧ xs = []) ∨ ∃ b off cap, v = .slice (some ⟨b, off, none⟩) xs.length cap ∧ xs.length ≤ cap ∧ ∀ κ' w, κ.le κ' → Hp κ' w X → At w ⟨b, off, xs.flatMap enc⟩
section
variable {α : Type} {κ κ' : K} {X : List HP} {sz : Nat} {enc : α → List Value} {v : Value} {xs : List α}
theorem Rd.nil : Rd κ X sz enc (.slice none 0 0) [] := .inl ⟨⟨_, _, rfl⟩, rfl⟩
theorem Rd.mono (h : Rd κ X sz enc v xs) (l : κ.le κ') : Rd κ' X sz enc v xs := by
  rcases h with h | ⟨b, off, cap, h1, h2, h3⟩
  · exact .inl h
  · exact .inr ⟨b, off, cap, h1, h2, fun κ2 w l2 hH => h3 κ2 w (l.trans l2) hH⟩
theorem Rd.form (h : Rd κ X sz enc v xs) : ∃ A cap, v = .slice A xs.length cap ∧ xs.length ≤ cap := by
  rcases h with ⟨⟨A, cap, rfl⟩, rfl⟩ | ⟨b, off, cap, h1, h2, h3⟩
  · exact ⟨A, cap, rfl, Nat.zero_le _⟩
  · exact ⟨_, _, h1, h2⟩
theorem Rd.addr {A : Option Addr} {n cap : Nat} (h : Rd κ X sz enc (.slice A n cap) xs) (hn : 0 < xs.length) : ∃ b off, A = some ⟨b, off, none⟩ := by
  rcases h with ⟨_, rfl⟩ | ⟨b, off, cap, h1, h2, h3⟩
  · simp at hn
  · simp only [Value.slice.injEq] at h1
    exact ⟨b, off, h1.1⟩
theorem flatMap_get (he : ∀ x ∈ xs, (enc x).length = sz) : ∀ (i : Nat) (h : i < xs.length) (j : Nat) (u : Value), (enc xs[i])[j]? = some u → (xs.flatMap enc)[i * sz + j]? = some u := by
  induction xs with
  | nil => intro i h; simp at h
  | cons x xs ih =>
    intro i h j u hu
    rw [List.flatMap_cons]
    cases i with
    | zero =>
      simp only [List.getElem_cons_zero, Nat.zero_mul, Nat.zero_add] at hu ⊢
      have hj : j < (enc x).length := by
        rcases Nat.lt_or_ge j (enc x).length with g | g
        · exact g
        · rw [List.getElem?_eq_none g] at hu; cases hu
      rw [List.getElem?_append_left hj]; exact hu
    | succ i =>
      have hx := he x (List.mem_cons_self ..)
      simp only [List.getElem_cons_succ] at hu
      have h' : i < xs.length := by simpa using h
      rw [List.getElem?_append_right (by rw [hx, Nat.succ_mul]; omega)]
      have := ih (fun y hy => he y (List.mem_cons_of_mem _ hy)) i h' j u hu
      rw [hx, show (i + 1) * sz + j - sz = i * sz + j from by rw [Nat.succ_mul]; omega]
      exact this
/-- An element lies there. -/
theorem Rd.at_ {b off n cap : Nat} (h : Rd κ X sz enc (.slice (some ⟨b, off, none⟩) n cap) xs) (he : ∀ x ∈ xs, (enc x).length = sz) (i : Nat) (hi : i < xs.length) : ∀ κ' w, κ.le κ' → Hp κ' w X → At w ⟨b, off + i * sz, enc xs[i]⟩ := by
  rcases h with ⟨_, h1⟩ | ⟨b', off', cap', h1, h2, h3⟩
  · subst h1; simp at hi
  · simp only [Value.slice.injEq, Option.some.injEq, Addr.mk.injEq, and_true] at h1
    obtain ⟨⟨rfl, rfl⟩, _, _⟩ := h1
    intro κ' w l hH
    obtain ⟨cs, t, fr, hb, hc⟩ := h3 κ' w l hH
    refine ⟨cs, t, fr, hb, fun j u hu => ?_⟩
    have := flatMap_get he i hi j u hu
    have := hc _ _ this
    rw [Nat.add_assoc]; exact this
/-- An owned row that nobody writes any more. -/
theorem row_freeze {w : World} {C : List HP} {b t : Nat} {cs : List Value} (h : Hp κ w (row b cs t :: C)) : ∃ κ', κ.le κ' ∧ Hp κ' w C ∧ RO κ' b cs := by
  obtain ⟨κ', l, h1, h2⟩ := h.freeze
  exact ⟨κ', l, h1, t, _, h2⟩
theorem RO.rd {b off n cap : Nat} {cs : List Value} (h : RO κ b cs) (hn : n = xs.length) (hcap : n ≤ cap) (hc : ∀ j u, (xs.flatMap enc)[j]? = some u → cs[off + j]? = some u) : Rd κ X sz enc (.slice (some ⟨b, off, none⟩) n cap) xs := by
  subst hn
  exact .inr ⟨b, off, cap, rfl, hcap, At.ro h hc⟩
theorem osl_freeze {w : World} {C : List HP} {E : Nat} (he : ∀ x ∈ xs, (enc x).length = sz) (h : Hp κ w (osl v E sz xs.length (xs.flatMap enc) :: C)) : ∃ κ', κ.le κ' ∧ Hp κ' w C ∧ ∀ X, Rd κ' X sz enc v xs := by
  rcases osl_cases h with ⟨rfl, h1, _, hC⟩ | ⟨b, cap, cur, rfl, h2, _, _, h3, hR⟩
  · refine ⟨κ, K.le.refl κ, hC, fun X => .inl ⟨⟨_, _, rfl⟩, ?_⟩⟩
    exact List.eq_nil_of_length_eq_zero h1
  · obtain ⟨κ', l, h4, h5⟩ := row_freeze hR
    refine ⟨κ', l, h4, fun X => RO.rd h5 rfl h2 fun j u hu => ?_⟩
    rw [← h3, List.getElem?_take] at hu
    split at hu
    · simpa using hu
    · cases hu
/-- A slice over a row that is kept among X. -/
theorem Rd.own {b t n cap : Nat} {cs : List Value} (i : Nat) (h : X[i]? = some (row b cs t)) (hn : n = xs.length) (hcap : n ≤ cap) (hc : ∀ j u, (xs.flatMap enc)[j]? = some u → cs[0 + j]? = some u) : Rd κ X sz enc (.slice (some ⟨b, 0, none⟩) n cap) xs := by
  subst hn
  exact .inr ⟨b, 0, cap, rfl, hcap, At.own i h hc⟩
end

section
variable {P : Program} {T : List (Nat × TI)} {κ : K} {n : Nat} {C : List HP} {Q : Exit → Act → World → Prop} {a : Act} {w : World} {L : Fs} {o : Oper} {K : Act → World → Prop} {d : Nat}
/-- A store into a row of whatever length. -/
theorem op_storeS {t b off : Nat} {x y : Operand} {v : Value} {ti : TI} {cs : List Value} {tt : Nat} (hF : Fr n a L) (hT : Tab P T) (ho : o.op = .store t x y) (hd : o.dst = none) (hx : look L x = some (.pointer (some ⟨b, off, none⟩))) (hy : look L y = some v)
    (hti : lkT T t = some ti) (h1 : (Nat.beq (cellsL v).length ti.size && allC (cellsL v)) = true) (h2 : off + ti.size ≤ cs.length)
    (hH : Hp κ w (row b cs tt :: C)) (k : ∀ a' w', Fr n a' L → Hp κ w' (row b (putL cs off (cellsL v)) tt :: C) → K a' w') : o.wp P a w K Q := by
  have hx' := hF.eval hx
  have hy' := hF.eval hy
  simp only [Bool.and_eq_true] at h1
  obtain ⟨g1, g3⟩ := h1
  have g1 := Nat.eq_of_beq_eq_true g1
  have hb := hH.ptr
  have hrun := stv_run (P := P) hT hti (off := off) g1 (by omega) g3 hb
  obtain ⟨a1, a2, a3, a4, a5⟩ := setCells_same b tt (0, 0) (cellsL v) off w cs hb
  have hrun' : (execOp a.eval o).run P w = .ok .skip (w.setCells b off (cellsL v)) := by
    unfold execOp
    simp only [ho, hx', hy']
    simp [Instr.storeAt, Instr.sureAddr, hrun]
  unfold Oper.wp
  rw [hrun']
  have hf : Fr n (a.put o.dst undef) L := by rw [hd]; exact hF.put0 _
  exact k _ _ hf (hH.set a3 a4 a5 a1 a2)
def bnd (L : Fs) (x : Option Operand) (dflt v : Nat) : Prop := match x with
  | none => v = dflt
  | some x => ∃ k, look L x = some (.int k v)
theorem sliceBound_run {k : IntKind} {i y : Nat} {c : BoundsCode} (h : i ≤ y) : (Instr.sliceBound (.int k i) y c).run P w = .ok i w := by
  simp [Instr.sliceBound, asIntOf, h]
theorem op_slice {t e len cap l h m : Nat} {x : Operand} {lo hi mx : Option Operand} {A : Option Addr} {te : TI} {s1 b1 : Nat} {z1 : Value} (hF : Fr n a L) (hT : Tab P T) (ho : o.op = .slice t x lo hi mx) (hd : o.dst = some d) (hn : Nat.blt d n = true)
    (ht : lkT T t = some ⟨.slice e, s1, b1, z1⟩) (hte : lkT T e = some te) (hx : look L x = some (.slice A len cap)) (hl : bnd L lo 0 l) (hh : bnd L hi len h) (hm : bnd L mx cap m) (hmh : mx.isSome = true → hi.isSome = true)
    (h1 : l ≤ h) (h2 : h ≤ m) (h3 : m ≤ cap)
    (k : ∀ a', Fr n a' ((d, .slice (if m = l then A else A.map (·.add (l * te.size))) (h - l) (m - l)) :: L) → K a' w) : o.wp P a w K Q := by
  have hx' := hF.eval hx
  have hb : (Instr.sliceBounds true len cap (lo.map a.eval) (hi.map a.eval) (mx.map a.eval)).run P w = .ok (l, h, m) w := by
    have hlo : (lo = none ∧ l = 0) ∨ ∃ x k, lo = some x ∧ a.eval x = .int k l := by
      cases lo with
      | none => exact .inl ⟨rfl, hl⟩
      | some x => obtain ⟨k, hk⟩ := hl; exact .inr ⟨x, k, rfl, hF.eval hk⟩
    rcases hlo with ⟨rfl, rfl⟩ | ⟨xl, kl, rfl, hel⟩
    all_goals
      cases mx with
      | none =>
        simp only [bnd] at hm
        subst hm
        cases hi with
        | none =>
          simp only [bnd] at hh
          subst hh
          first
            | (simp only [Instr.sliceBounds, Option.map_none, Sem.run_bind, Sem.run_pure, Result.andThen_ok]; done)
            | (simp only [Instr.sliceBounds, Option.map_none, Option.map_some, hel, Sem.run_bind, Sem.run_pure, Result.andThen_ok, sliceBound_run h1]; done)
        | some y =>
          obtain ⟨k, hk⟩ := hh
          first
            | (simp only [Instr.sliceBounds, Option.map_none, Option.map_some, hF.eval hk, Sem.run_bind, Sem.run_pure, Result.andThen_ok, sliceBound_run h2]; done)
            | (simp only [Instr.sliceBounds, Option.map_none, Option.map_some, hel, hF.eval hk, Sem.run_bind, Sem.run_pure, Result.andThen_ok, sliceBound_run h2, sliceBound_run h1]; done)
      | some z =>
        obtain ⟨k, hk⟩ := hm
        cases hi with
        | none => simp at hmh
        | some y =>
          obtain ⟨k', hk'⟩ := hh
          first
            | (simp only [Instr.sliceBounds, Option.map_none, Option.map_some, hF.eval hk, hF.eval hk', Sem.run_bind, Sem.run_pure, Result.andThen_ok, sliceBound_run h3, sliceBound_run h2]; done)
            | (simp only [Instr.sliceBounds, Option.map_some, hel, hF.eval hk, hF.eval hk', Sem.run_bind, Sem.run_pure, Result.andThen_ok, sliceBound_run h3, sliceBound_run h2, sliceBound_run h1]; done)
  have hrun : (execOp a.eval o).run P w = .ok (.value (.slice (if m = l then A else A.map (·.add (l * te.size))) (h - l) (m - l))) w := by
    unfold execOp
    simp only [ho, hx', Instr.sliceAt, Instr.slice, Sem.run_bind, run_underlying (hT.get ht).slice, Result.andThen_ok, hb, (hT.get hte).run_size, Sem.run_pure]
  unfold Oper.wp
  rw [hrun]
  exact k _ (put_of hF hd hn _)
end
end Go.Sep
