/- Shorter words for the steps of a walk. -/
import Derived.Test.YtfapcagleghlaaaSepF
set_option linter.all false
namespace Go.Sep
open Go

theorem inK_i64 (n : Int) : InK .i64 n ↔ -9223372036854775808 ≤ n ∧ n ≤ 9223372036854775807 := Iff.rfl
theorem inK_u64 (n : Int) : InK .u64 n ↔ 0 ≤ n ∧ n ≤ 18446744073709551615 := Iff.rfl
theorem inK_u32 (n : Int) : InK .u32 n ↔ 0 ≤ n ∧ n ≤ 4294967295 := Iff.rfl
theorem inK_u8 (n : Int) : InK .u8 n ↔ 0 ≤ n ∧ n ≤ 255 := Iff.rfl
theorem inK_i32 (n : Int) : InK .i32 n ↔ -2147483648 ≤ n ∧ n ≤ 2147483647 := Iff.rfl
theorem max_i64 : IntKind.max .i64 = 9223372036854775807 := rfl
theorem max_u64 : IntKind.max .u64 = 18446744073709551615 := rfl

section
variable {P : Program} {K : Act → World → Prop} {Q : Exit → Act → World → Prop} {a : Act} {w : World} {i j : Nat}
theorem then_ret (h : Q .ret a w) : Exit.then K Q .ret a w := h
theorem blk_ret (h : Q .ret a w) : Exit.inBlock i Q .ret a w := h
theorem then_exit (h : Q (.exit i) a w) : Exit.then K Q (.exit i) a w := h
theorem blk_exit (h : Q .normal a w) : Exit.inBlock i Q (.exit i) a w := by simp only [Exit.inBlock, if_true]; exact h
theorem blk_exit_ne (hn : Nat.beq i j = false) (h : Q (.exit i) a w) : Exit.inBlock j Q (.exit i) a w := by
  have : ¬ i = j := fun e => by subst e; rw [Nat.beq_refl] at hn; cases hn
  simp only [Exit.inBlock, if_neg this]; exact h
theorem ng_ret (h : Q .ret a w) : Exit.noGoto Q .ret a w := h
theorem ng_exit (h : Q (.exit i) a w) : Exit.noGoto Q (.exit i) a w := h
theorem ng_normal (h : Q .normal a w) : Exit.noGoto Q .normal a w := h
theorem then_normal (h : K a w) : Exit.then K Q .normal a w := h
theorem blk_normal (h : Q .normal a w) : Exit.inBlock i Q .normal a w := h
end
/-- The slots of L' as L has them. -/
def Sub (L : Fs) : Fs → Prop
  | [] => True
  | p :: L' => lk L p.1 = some p.2 ∧ Sub L L'
theorem Sub.all {L : Fs} : ∀ {L' : Fs}, Sub L L' → ∀ p ∈ L', lk L p.1 = some p.2
  | [], _, _, h => by cases h
  | q :: L', h, p, hp => by
    rcases List.mem_cons.1 hp with rfl | hp
    · exact h.1
    · exact Sub.all h.2 p hp
theorem Fr.to {n : Nat} {a : Act} {L L' : Fs} (h : Fr n a L) (s : Sub L L') : Fr n a L' := h.sub s.all

section
variable {P : Program} {T : List (Nat × TI)} {κ : K} {n : Nat} {C : List HP} {Q : Exit → Act → World → Prop} {a : Act} {w : World} {L L' : Fs} {M' : Mem} {ops l l' : List Oper} {c' : List Prop}

theorem ev0 (hs : List Nat) (hT : Tab P T) (hF : Fr n a L) (hH : Hp κ w C) (e : evN T [] n (ops.map (·.dst)) hs l L [] [] = some (L', [], c', l')) (hc : All c')
    (k : ∀ a' w', Fr n a' L' → Hp κ w' C → wpList P ops.toArray Q l' a' w') : wpList P ops.toArray Q l a w :=
  ops_ev (M := []) (X := []) hT (LFok.nil _ _) hF hH e hc k
theorem evM (M : Mem) (hs : List Nat) (hT : Tab P T) (hF : Fr n a L) (hH : Hp κ w (ptsOf M ++ C)) (e : evN T [] n (ops.map (·.dst)) hs l L M [] = some (L', M', c', l')) (hc : All c')
    (k : ∀ a' w', Fr n a' L' → Hp κ w' (ptsOf M' ++ C) → wpList P ops.toArray Q l' a' w') : wpList P ops.toArray Q l a w :=
  ops_ev (M := M) (X := []) hT (LFok.nil _ _) hF hH e hc k
theorem evF (M : Mem) (X : List HP) {F : List LF} (hL : LFok κ X F) (hs : List Nat) (hT : Tab P T) (hF : Fr n a L) (hH : Hp κ w (ptsOf M ++ (X ++ C))) (e : evN T F n (ops.map (·.dst)) hs l L M [] = some (L', M', c', l')) (hc : All c')
    (k : ∀ a' w', Fr n a' L' → Hp κ w' (ptsOf M' ++ (X ++ C)) → wpList P ops.toArray Q l' a' w') : wpList P ops.toArray Q l a w :=
  ops_ev hT hL hF hH e hc k
/-- An operation that acts, in a region that does not draw. -/
theorem list_act {o : Oper} (hF : Fr n a L) (hg : gd (ops.map (·.dst)) L o.guard = some true) (h : o.wp P a w (wpList P ops.toArray Q l) Q) : wpList P ops.toArray Q (o :: l) a w := by
  unfold wpList
  rw [if_pos (gd_wanted hF (by simpa using hg))]
  exact .inl h
/-- A region that draws its order and only reads. -/
theorem dr_all (hm : P.follows .mixedOrders = true) {id : Nat} (M : Mem) (X : List HP) {F : List LF} (is : List (Nat × Nat)) (hT : Tab P T) (hL : LFok κ X F) (hns : Region.noSelect ops.toArray = true) (hlen : is.length = ops.length)
    (hF : Fr n a L) (hH : Hp κ w (ptsOf M ++ (X ++ C))) (htk : takes ops.toArray [] (Array.replicate ops.length false) (is.map (·.1)) = true)
    (hr : Region.ready .any ops.toArray (markAll (Array.replicate ops.length false) (is.map (·.1))) = [])
    (e : evD T F n (ops.map (·.dst)) ops M is L [] = some (L', c')) (hc : All c') (k : ∀ a' w', Fr n a' L' → Hp κ w' (ptsOf M ++ (X ++ C)) → Q .normal a' w') : (Code.region id ops.toArray true).wp P Q a w := by
  refine dr_begin hm κ M X [] fun w' e1 e2 e3 e4 => ?_
  have hH' := hH.alike e2 e3 e4 e1
  have := dr_take (P := P) (Q := Q) (X := X) (brk := []) (fuel := 0) hT hL hns is hF (Keeps.of hH' (K.le.refl κ)) htk e hc (fun a' hF' => dr_done hr (k a' w' hF' hH') 0)
  rw [Nat.zero_add, hlen] at this
  exact this
/-- The reads of such a region; behind them what acts. -/
theorem dr_reads (hm : P.follows .mixedOrders = true) {id : Nat} (M : Mem) (X : List HP) {F : List LF} (brk : List Nat) (is : List (Nat × Nat)) (fuel : Nat) (hT : Tab P T) (hL : LFok κ X F) (hns : Region.noSelect ops.toArray = true) (hlen : fuel + is.length = ops.length)
    (hF : Fr n a L) (hH : Hp κ w (ptsOf M ++ (X ++ C))) (htk : takes ops.toArray brk (Array.replicate ops.length false) (is.map (·.1)) = true)
    (e : evD T F n (ops.map (·.dst)) ops M is L [] = some (L', c')) (hc : All c')
    (k : ∀ a' w', Fr n a' L' → Hp κ w' (ptsOf M ++ (X ++ C)) → wpAnyT P ops.toArray (NoPanic Q) (Keeps κ M X) brk fuel (markAll (Array.replicate ops.length false) (is.map (·.1))) a' w') : (Code.region id ops.toArray true).wp P Q a w := by
  refine dr_begin hm κ M X brk fun w' e1 e2 e3 e4 => ?_
  have hH' := hH.alike e2 e3 e4 e1
  have := dr_take (P := P) (Q := Q) (X := X) (brk := brk) (fuel := fuel) hT hL hns is hF (Keeps.of hH' (K.le.refl κ)) htk e hc (fun a' hF' => k a' w' hF' hH')
  rw [hlen] at this
  exact this
/-- More reads, behind an operation that acted. -/
theorem dr_more (M : Mem) (X : List HP) {F : List LF} {brk : List Nat} (is : List (Nat × Nat)) (fuel : Nat) {fuel' : Nat} {listed : Array Bool} {κ₀ : K} (l : κ₀.le κ) (hT : Tab P T) (hL : LFok κ₀ X F) (hns : Region.noSelect ops.toArray = true) (hlen : fuel + is.length = fuel')
    (hF : Fr n a L) (hH : Hp κ w (ptsOf M ++ (X ++ C))) (htk : takes ops.toArray brk listed (is.map (·.1)) = true)
    (e : evD T F n (ops.map (·.dst)) ops M is L [] = some (L', c')) (hc : All c')
    (k : ∀ a', Fr n a' L' → wpAnyT P ops.toArray (NoPanic Q) (Keeps κ₀ M X) brk fuel (markAll listed (is.map (·.1))) a' w) : wpAnyT P ops.toArray (NoPanic Q) (Keeps κ₀ M X) brk fuel' listed a w := by
  have := dr_take (P := P) (Q := Q) (X := X) (brk := brk) (fuel := fuel) hT hL hns is hF (Keeps.of hH l) htk e hc k
  rw [hlen] at this
  exact this
/-- An operation that the evaluator tells, as one that acts. -/
theorem op_ev {o : Oper} {K : Act → World → Prop} {v : Value} {h : Nat} {M : Mem} (hF : Fr n a L) (hT : Tab P T) (hH : Hp κ w (ptsOf M ++ C)) (e : ev T [] L M h o.op = some (v, c', M')) (hc : All c') (hp : putF n o.dst v L = some L')
    (k : ∀ a' w', Fr n a' L' → Hp κ w' (ptsOf M' ++ C) → K a' w') : o.wp P a w K Q := by
  obtain ⟨w', hrun, hH'⟩ := ev_run (X := []) (P := P) hT hF.sees hH (LFok.nil _ _) e hc
  unfold Oper.wp
  rcases hrun with hrun | ⟨hrun, rfl⟩ <;> rw [hrun]
  · exact k _ _ (putF_fr hF hp) hH'
  · exact k _ _ (putF_fr hF hp) hH'
end
end Go.Sep
