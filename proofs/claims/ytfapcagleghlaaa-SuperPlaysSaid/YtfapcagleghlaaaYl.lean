/- Contracts of the supertask's functions: the jobs that are released, in order. -/
import Derived.Test.YtfapcagleghlaaaYk
set_option linter.all false
namespace Go.Proofs.Try
open Go Go.Sep

section
variable {P : Program} {T : List (Nat × TI)} {κ : K} {w : World} {n : Nat} {C : List HP} {Q : Exit → Act → World → Prop} {a : Act} {L : Fs} {o : Oper} {K : Act → World → Prop} {d : Nat}
/-- append of nothing. -/
theorem op_append0 {s x : Operand} {t e k : Nat} {te : TI} {v : Value} {cs : List Value} {s1 b1 : Nat} {z1 : Value} (hF : Fr n a L) (hT : Tab P T) (ho : o.op = .call ⟨.builtin .append, #[s, x], #[t, t]⟩) (hd : o.dst = some d) (hn : Nat.blt d n = true)
    (ht : lkT T t = some ⟨.slice e, s1, b1, z1⟩) (hte : lkT T e = some te) (hs : Sep.look L s = some v) (hx : Sep.look L x = some (.slice none 0 0))
    (hH : Hp κ w (osl v e te.size k cs :: C)) (kk : ∀ a', Fr n a' ((d, v) :: L) → K a' w) : o.wp P a w K Q := by
  obtain ⟨dd, j, _, h2, h3, h4, h5, h6⟩ := (hT.get hte).out
  have hu := (hT.get ht).slice
  have hrun : (execOp a.eval o).run P w = .ok (.value v) w := by
    have hev := hF.eval hs
    have hev2 := hF.eval hx
    have hr : (Builtin.append_ #[t, t] o.type #[v, .slice none 0 0]).run P w = .ok v w := by
      rcases osl_cases hH with ⟨rfl, rfl, rfl, hC⟩ | ⟨b, cap, cur, rfl, g3, g4, g5, g6, hR⟩
      · simp [Builtin.append_, run_underlying hu, sizeOf, typeInfo, h3, Builtin.lenOf, Builtin.firstCells, loadCells, loadCellsFrom]
      · simp [Builtin.append_, run_underlying hu, sizeOf, typeInfo, h3, Builtin.lenOf, Builtin.firstCells, loadCells, loadCellsFrom, g3, storeCells]
    unfold execOp
    simp only [ho, resolve, invoke, builtin, Sem.run_bind, Sem.run_pure, Result.andThen_ok, List.map_toArray, List.map_cons, List.map_nil, hev, hev2, hr]
  unfold Oper.wp
  rw [hrun]
  exact kk _ (put_of hF hd hn _)
end
/-- The jobs of all parts that are released by a slot, part by part. -/
def relL (at_ : Int) (ps : List Prt) : List Prt := ps.flatMap (relF at_ 1000)
theorem relL_len (at_ : Int) : ∀ ps, (relL at_ ps).length ≤ 1000 * ps.length
  | [] => Nat.le_refl _
  | p :: ps => by
    have h1 := relF_len at_ 1000 p
    have h2 := relL_len at_ ps
    simp only [relL, List.flatMap_cons, List.length_append, List.length_cons] at *
    omega
theorem allC_flatJ : ∀ js : List Prt, allC (js.flatMap jenc) = true
  | [] => rfl
  | p :: js => by
    have := allC_flatJ js
    simp only [List.flatMap_cons, jenc, List.cons_append, List.nil_append, allC, oneC, this, Bool.and_self, Bool.true_and]
section
variable {κ : K} {w : World} {C : List HP}
set_option maxRecDepth 20000 in
theorem jobs_calls {s : Nat} {S : Sup} {a0 : Int} (at_ : Int) (ha0 : 0 ≤ a0) (hp : ∀ p ∈ S.ps, PInv a0 p) (hl : S.ps.length ≤ 8) (hs : S.last ≤ at_ ∧ at_ ≤ 1099511627776) (hH : Hp κ w (sup s S :: C)) : Calls Try.prog 18 #[.pointer (some ⟨s, 0, none⟩), .int .i64 at_] w
    (fun e w' => ∃ v, ∃ J : List Prt, e = .returned v ∧ J.Perm (relL at_ S.ps) ∧ Srt J ∧ Hp κ w' (osl v 40 5 J.length (J.flatMap jenc) :: sup s S :: C)) := by
  refine enter (args := [.pointer (some ⟨s, 0, none⟩), .int .i64 at_]) Try.func18 rfl rfl ?_
  intro A hF
  refine wp_seq ?_
  refine wp_region_lit ?_
  refine list_act hF rfl ?_
  refine op_box hF rfl rfl rfl rfl rfl hH ?_
  intro b3 A w hF hH
  refine ev0 [0] tab hF hH rfl (by first | exact trivial | (simp only [All, inK_i64, inK_u64, inK_u32, inK_u8, inK_i32, max_i64, max_u64, IntKind.bits, Int.reduceToNat, Int.reduceAdd, Nat.reducePow, Int.reducePow, and_true, true_and, and_self] <;> omega)) ?_
  intro A w hF hH
  refine wpList_nil ?_
  refine wp_seq ?_
  refine wp_seq ?_
  refine wp_region_lit ?_
  refine evM [⟨b3, [.int .i64 at_], 2⟩] [0, 0] tab hF hH rfl (by first | exact trivial | (simp only [All, inK_i64, inK_u64, inK_u32, inK_u8, inK_i32, max_i64, max_u64, IntKind.bits, Int.reduceToNat, Int.reduceAdd, Nat.reducePow, Int.reducePow, and_true, true_and, and_self] <;> omega)) ?_
  intro A w hF hH
  have hH := hH.swap
  refine list_act hF rfl ?_
  refine op_call hF rfl rfl rfl rfl rfl rfl isF36 (slot_calls at_ hH) ?_
  rintro e w ⟨rfl, hH⟩
  refine ⟨_, rfl, fun A hF => ?_⟩
  rw [show decide (S.last ≤ at_ ∧ at_ ≤ 1099511627776) = true from by simpa using hs] at hF
  refine ev0 [0] tab hF hH rfl (by first | exact trivial | (simp only [All, inK_i64, inK_u64, inK_u32, inK_u8, inK_i32, max_i64, max_u64, IntKind.bits, Int.reduceToNat, Int.reduceAdd, Nat.reducePow, Int.reducePow, and_true, true_and, and_self] <;> omega)) ?_
  intro A w hF hH
  refine wpList_nil ?_
  refine cond_f hF rfl rfl ?_
  refine wp_skip ?_
  refine wp_seq ?_
  refine wp_region_lit ?_
  refine ev0 [0] tab hF hH rfl (by first | exact trivial | (simp only [All, inK_i64, inK_u64, inK_u32, inK_u8, inK_i32, max_i64, max_u64, IntKind.bits, Int.reduceToNat, Int.reduceAdd, Nat.reducePow, Int.reducePow, and_true, true_and, and_self] <;> omega)) ?_
  intro A w hF hH
  refine wpList_nil ?_
  refine wp_seq ?_
  refine wp_seq ?_
  refine wp_region_lit ?_
  obtain ⟨b, cap, junk, hcap, hH⟩ := sup_open hH
  refine evM [⟨s, [.slice (some ⟨b, 0, none⟩) S.ps.length cap, .int .i64 S.last, .int .i64 S.served, .int .i64 S.idle], 72⟩] [0, 0, 0, 0, 0, 0] tab hF hH rfl (by first | exact trivial | (simp only [All, inK_i64, inK_u64, inK_u32, inK_u8, inK_i32, max_i64, max_u64, IntKind.bits, Int.reduceToNat, Int.reduceAdd, Nat.reducePow, Int.reducePow, and_true, true_and, and_self] <;> omega)) ?_
  intro A w hF hH
  refine wpList_nil ?_
  refine wp_block ?_
  have hH := osl_nil 40 5 hH
  refine loop_j (fun (i : Nat) A w => i ≤ S.ps.length ∧ ∃ (A0 : Option Addr) (cap1 : Nat), Fr 30 A [(17, .int .i64 i), (16, .int .i64 S.ps.length), (15, .slice (some ⟨b, 0, none⟩) S.ps.length cap), (5, .slice A0 (relL at_ (S.ps.take i)).length cap1), (3, .pointer (some ⟨b3, 0, none⟩))] ∧ Hp κ w (osl (.slice A0 (relL at_ (S.ps.take i)).length cap1) 40 5 (relL at_ (S.ps.take i)).length ((relL at_ (S.ps.take i)).flatMap jenc) :: row s [.slice (some ⟨b, 0, none⟩) S.ps.length cap, .int .i64 S.last, .int .i64 S.served, .int .i64 S.idle] 72 :: row b (S.ps.flatMap penc ++ junk) 74 :: row b3 [.int .i64 at_] 2 :: C)) (fun i => S.ps.length - i) 0 ⟨Nat.zero_le _, none, 0, Fr.to hF ⟨rfl, rfl, rfl, rfl, rfl, trivial⟩, hH⟩ ?_
  rintro i A w ⟨hi, A0, cap1, hF, hH⟩
  have hlen := relL_len at_ (S.ps.take i)
  rw [List.length_take, Nat.min_eq_left hi] at hlen
  refine wp_seq ?_
  refine wp_region_lit ?_
  by_cases hlt : i < S.ps.length
  · refine ev0 [1] tab hF hH rfl (by first | exact trivial | (simp only [All, inK_i64, inK_u64, inK_u32, inK_u8, inK_i32, max_i64, max_u64, IntKind.bits, Int.reduceToNat, Int.reduceAdd, Nat.reducePow, Int.reducePow, and_true, true_and, and_self] <;> omega)) ?_
    intro A w hF hH
    refine wpList_nil ?_
    refine wp_seq ?_
    refine cond_t hF rfl rfl ?_
    refine wp_skip ?_
    refine wp_seq ?_
    refine wp_block ?_
    refine wp_seq ?_
    refine wp_region_lit ?_
    have hpi := hp S.ps[i] (List.getElem_mem hlt)
    have hH := hH.focus 2 rfl
    have hat := At.own (κ := κ) (X := [row b (S.ps.flatMap penc ++ junk) 74]) 0 rfl (flatMap_penc_get S.ps i hlt junk)
    have htk : relL at_ (S.ps.take (i + 1)) = relL at_ (S.ps.take i) ++ relF at_ 1000 S.ps[i] := by
      simp only [relL, List.take_add_one, List.getElem?_eq_getElem hlt, Option.toList_some, List.flatMap_append, List.flatMap_cons, List.flatMap_nil, List.append_nil]
    generalize S.ps[i] = p at *
    have hrl := relF_len at_ 1000 p
    refine evF [] [row b (S.ps.flatMap penc ++ junk) 74] (LFok.cons hat (LFok.nil _ _)) [0, 1] tab hF hH rfl (by first | exact trivial | (simp only [All, inK_i64, inK_u64, inK_u32, inK_u8, inK_i32, max_i64, max_u64, IntKind.bits, Int.reduceToNat, Int.reduceAdd, Nat.reducePow, Int.reducePow, and_true, true_and, and_self] <;> omega)) ?_
    intro A w hF hH
    refine list_act hF rfl ?_
    refine op_alloc hF tab rfl rfl rfl rfl rfl hH ?_
    intro b7 A w hF hH
    refine evM [⟨b7, [.int .i64 0, .int .i64 0, .int .i64 0, .int .i64 0, .int .i64 0, .int .i64 0, .int .i64 0], 74⟩] [0] tab hF hH rfl (by first | exact trivial | (simp only [All, inK_i64, inK_u64, inK_u32, inK_u8, inK_i32, max_i64, max_u64, IntKind.bits, Int.reduceToNat, Int.reduceAdd, Nat.reducePow, Int.reducePow, and_true, true_and, and_self] <;> omega)) ?_
    intro A w hF hH
    refine wpList_nil ?_
    refine wp_region_lit ?_
    have hH : Hp κ _ (row b7 (penc p) 74 :: _) := hH
    refine evM [⟨b7, penc p, 74⟩] [0, 0, 0] tab hF hH rfl (by first | exact trivial | (simp only [All, inK_i64, inK_u64, inK_u32, inK_u8, inK_i32, max_i64, max_u64, IntKind.bits, Int.reduceToNat, Int.reduceAdd, Nat.reducePow, Int.reducePow, and_true, true_and, and_self] <;> omega)) ?_
    intro A w hF hH
    have hH := hH.tail.focus 3 rfl
    refine list_act hF rfl ?_
    refine op_call hF rfl rfl rfl rfl rfl rfl isF40 (each_calls hpi ha0 hs.2 hH) ?_
    rintro e w ⟨v2, rfl, hH⟩
    refine ⟨_, rfl, fun A hF => ?_⟩
    rcases osl_cases hH with ⟨rfl, hz, _, hC⟩ | ⟨b', cap', cur, rfl, _⟩
    · have hH := hC.focus 2 rfl
      have hn0 : relF at_ 1000 p = [] := List.eq_nil_of_length_eq_zero hz
      rw [hn0, List.append_nil] at htk
      refine list_act hF rfl ?_
      refine op_append0 hF tab rfl rfl rfl rfl rfl rfl rfl hH ?_
      intro A hF
      refine ev0 [0] tab hF hH rfl (by first | exact trivial | (simp only [All, inK_i64, inK_u64, inK_u32, inK_u8, inK_i32, max_i64, max_u64, IntKind.bits, Int.reduceToNat, Int.reduceAdd, Nat.reducePow, Int.reducePow, and_true, true_and, and_self] <;> omega)) ?_
      intro A w hF hH
      refine wpList_nil ?_
      refine wp_region_lit ?_
      refine ev0 [0, 0] tab hF hH rfl (by first | exact trivial | (simp only [All, inK_i64, inK_u64, inK_u32, inK_u8, inK_i32, max_i64, max_u64, IntKind.bits, Int.reduceToNat, Int.reduceAdd, Nat.reducePow, Int.reducePow, and_true, true_and, and_self] <;> omega)) ?_
      intro A w hF hH
      refine wpList_nil ?_
      refine ⟨i + 1, ⟨by omega, A0, cap1, Fr.to hF ⟨rfl, rfl, rfl, by rw [htk]; rfl, rfl, trivial⟩, ?_⟩, by omega⟩
      rw [htk]
      exact (((hH.focus 1 rfl).focus 2 rfl).focus 3 rfl).focus 3 rfl
    · skip
      have hat2 := osl_at (off := 0) (vs := (relF at_ 1000 p).flatMap jenc) hH (fun j u h => by rw [Nat.zero_add]; exact h)
      have hH := hH.tail.focus 2 rfl
      have hle2 := relL_len at_ (S.ps.take (i + 1))
      refine list_act hF rfl ?_
      refine op_append hF tab rfl rfl rfl rfl rfl rfl rfl rfl hH hat2 (flatJ_len _) (allC_flatJ _) (by simp [maxLen]; omega) (by simp; omega) ?_
      intro v A w hF hH
      obtain ⟨A1, cap2, rfl⟩ := osl_form hH
      refine ev0 [0] tab hF hH rfl (by first | exact trivial | (simp only [All, inK_i64, inK_u64, inK_u32, inK_u8, inK_i32, max_i64, max_u64, IntKind.bits, Int.reduceToNat, Int.reduceAdd, Nat.reducePow, Int.reducePow, and_true, true_and, and_self] <;> omega)) ?_
      intro A w hF hH
      refine wpList_nil ?_
      refine wp_region_lit ?_
      refine ev0 [0, 0] tab hF hH rfl (by first | exact trivial | (simp only [All, inK_i64, inK_u64, inK_u32, inK_u8, inK_i32, max_i64, max_u64, IntKind.bits, Int.reduceToNat, Int.reduceAdd, Nat.reducePow, Int.reducePow, and_true, true_and, and_self] <;> omega)) ?_
      intro A w hF hH
      refine wpList_nil ?_
      refine ⟨i + 1, ⟨by omega, A1, cap2, Fr.to hF ⟨rfl, rfl, rfl, by rw [htk, List.length_append]; rfl, rfl, trivial⟩, ?_⟩, by omega⟩
      rw [htk, List.length_append, List.flatMap_append]
      exact (((hH.focus 1 rfl).focus 2 rfl).focus 3 rfl).focus 3 rfl
  · skip
    refine ev0 [2] tab hF hH rfl (by first | exact trivial | (simp only [All, inK_i64, inK_u64, inK_u32, inK_u8, inK_i32, max_i64, max_u64, IntKind.bits, Int.reduceToNat, Int.reduceAdd, Nat.reducePow, Int.reducePow, and_true, true_and, and_self] <;> omega)) ?_
    intro A w hF hH
    refine wpList_nil ?_
    refine wp_seq ?_
    refine cond_f hF rfl rfl ?_
    refine wp_exit ?_
    repeat (first | refine then_exit ?_ | refine ng_exit ?_ | refine blk_exit ?_ | refine blk_exit_ne rfl ?_)
    refine wp_seq ?_
    refine wp_region_lit ?_
    have e : i = S.ps.length := by omega
    subst e
    rw [List.take_length] at hF hH
    refine ev0 [0] tab hF hH rfl (by first | exact trivial | (simp only [All, inK_i64, inK_u64, inK_u32, inK_u8, inK_i32, max_i64, max_u64, IntKind.bits, Int.reduceToNat, Int.reduceAdd, Nat.reducePow, Int.reducePow, and_true, true_and, and_self] <;> omega)) ?_
    intro A w hF hH
    refine list_act hF rfl ?_
    refine op_call hF rfl rfl rfl rfl rfl rfl isF42 (sortst_calls (relL at_ S.ps) (by have := relL_len at_ S.ps; omega) hH) ?_
    rintro e w ⟨rfl, J, hJp, hJs, hH⟩
    refine ⟨_, rfl, fun A hF => ?_⟩
    refine wpList_nil ?_
    refine wp_seq ?_
    refine wp_region_lit ?_
    refine ev0 [0, 0] tab hF hH rfl (by first | exact trivial | (simp only [All, inK_i64, inK_u64, inK_u32, inK_u8, inK_i32, max_i64, max_u64, IntKind.bits, Int.reduceToNat, Int.reduceAdd, Nat.reducePow, Int.reducePow, and_true, true_and, and_self] <;> omega)) ?_
    intro A w hF hH
    refine wpList_nil ?_
    refine wp_ret ?_
    repeat (first | refine then_ret ?_ | refine blk_ret ?_ | refine ng_ret ?_)
    refine ret (M := []) (hs := []) tab hF hH rfl (by first | exact trivial | (simp only [All, inK_i64, inK_u64, inK_u32, inK_u8, inK_i32, max_i64, max_u64, IntKind.bits, Int.reduceToNat, Int.reduceAdd, Nat.reducePow, Int.reducePow, and_true, true_and, and_self] <;> omega)) ?_
    have hlJ := hJp.length_eq

    exact ⟨_, J, rfl, hJp, hJs, (by
      have hH := hH.focus 3 rfl
      have h2 : Hp κ _ (row s [.slice (some ⟨b, 0, none⟩) S.ps.length cap, .int .i64 S.last, .int .i64 S.served, .int .i64 S.idle] 72 :: row b (S.ps.flatMap penc ++ junk) 74 :: osl _ 40 5 J.length (J.flatMap jenc) :: C) := (((hH.tail).focus 1 rfl).focus 2 rfl |>.swap)
      exact (sup_close (n := 0) rfl rfl rfl rfl hcap h2).swap)⟩
end
end Go.Proofs.Try
