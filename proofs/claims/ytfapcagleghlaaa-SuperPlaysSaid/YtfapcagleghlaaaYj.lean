/- Contracts of the supertask's functions: jobs put in order. -/
import Derived.Test.YtfapcagleghlaaaYh
set_option linter.all false
namespace Go.Proofs.Try
open Go Go.Sep

section
variable {κ : K} {w : World} {C : List HP}
set_option maxRecDepth 20000 in
theorem insert_nil (hH : Hp κ w C) : Calls Try.prog 80 #[.slice none 0 0, .int .i64 0, .int .i64 0, .func (.func 37) #[] #[]] w (fun e w' => e = .returned (.tuple #[]) ∧ Hp κ w' C) := by
  refine enter (args := [.slice none 0 0, .int .i64 0, .int .i64 0, .func (.func 37) #[] #[]]) Try.func80 rfl rfl ?_
  intro A hF
  refine wp_seq ?_
  refine wp_region_lit ?_
  refine ev0 [0, 0, 0] tab hF hH rfl (by first | exact trivial | (simp only [All, inK_i64, inK_u64, inK_u32, inK_u8, inK_i32, max_i64, max_u64, IntKind.bits, Int.reduceToNat, Int.reduceAdd, Nat.reducePow, Int.reducePow, and_true, true_and, and_self] <;> omega)) ?_
  intro A w hF hH
  refine wpList_nil ?_
  refine wp_block ?_
  refine loop_j (fun (_ : Unit) A w => Fr 53 A [(8, .int .i64 1), (2, .int .i64 0)] ∧ Hp κ w C) (fun _ => 0) () ⟨Fr.to hF ⟨rfl, rfl, trivial⟩, hH⟩ ?_
  rintro u A w ⟨hF, hH⟩
  refine wp_seq ?_
  refine wp_seq ?_
  refine wp_region_lit ?_
  refine ev0 [0, 0, 2] tab hF hH rfl (by first | exact trivial | (simp only [All, inK_i64, inK_u64, inK_u32, inK_u8, inK_i32, max_i64, max_u64, IntKind.bits, Int.reduceToNat, Int.reduceAdd, Nat.reducePow, Int.reducePow, and_true, true_and, and_self] <;> omega)) ?_
  intro A w hF hH
  refine wpList_nil ?_
  refine cond_f hF rfl rfl ?_
  refine wp_exit ?_
  repeat (first | refine then_exit ?_ | refine ng_exit ?_ | refine blk_exit ?_ | refine blk_exit_ne rfl ?_)
  refine fin (M := []) (hs := []) tab hF hH rfl (by first | exact trivial | (simp only [All, inK_i64, inK_u64, inK_u32, inK_u8, inK_i32, max_i64, max_u64, IntKind.bits, Int.reduceToNat, Int.reduceAdd, Nat.reducePow, Int.reducePow, and_true, true_and, and_self] <;> omega)) ?_
  exact ⟨rfl, hH⟩
set_option maxRecDepth 20000 in
theorem stable_nil (hH : Hp κ w C) : Calls Try.prog 66 #[.slice none 0 0, .int .i64 0, .func (.func 37) #[] #[]] w (fun e w' => e = .returned (.tuple #[]) ∧ Hp κ w' C) := by
  refine enter (args := [.slice none 0 0, .int .i64 0, .func (.func 37) #[] #[]]) Try.func66 rfl rfl ?_
  intro A hF
  refine wp_seq ?_
  refine wp_region_lit ?_
  refine ev0 [0] tab hF hH rfl (by first | exact trivial | (simp only [All, inK_i64, inK_u64, inK_u32, inK_u8, inK_i32, max_i64, max_u64, IntKind.bits, Int.reduceToNat, Int.reduceAdd, Nat.reducePow, Int.reducePow, and_true, true_and, and_self] <;> omega)) ?_
  intro A w hF hH
  refine wpList_nil ?_
  refine wp_seq ?_
  refine wp_region_lit ?_
  refine ev0 [0, 0, 0] tab hF hH rfl (by first | exact trivial | (simp only [All, inK_i64, inK_u64, inK_u32, inK_u8, inK_i32, max_i64, max_u64, IntKind.bits, Int.reduceToNat, Int.reduceAdd, Nat.reducePow, Int.reducePow, and_true, true_and, and_self] <;> omega)) ?_
  intro A w hF hH
  refine wpList_nil ?_
  refine wp_seq ?_
  refine wp_block ?_
  refine loop_j (fun (_ : Unit) A w => Fr 63 A [(7, .int .i64 0), (8, .int .i64 20), (6, .int .i64 20), (0, .slice none 0 0), (1, .int .i64 0), (2, .func (.func 37) #[] #[])] ∧ Hp κ w C) (fun _ => 0) () ⟨Fr.to hF ⟨rfl, rfl, rfl, rfl, rfl, rfl, trivial⟩, hH⟩ ?_
  rintro u A w ⟨hF, hH⟩
  refine wp_seq ?_
  refine wp_seq ?_
  refine wp_region_lit ?_
  refine ev0 [0, 0, 2] tab hF hH rfl (by first | exact trivial | (simp only [All, inK_i64, inK_u64, inK_u32, inK_u8, inK_i32, max_i64, max_u64, IntKind.bits, Int.reduceToNat, Int.reduceAdd, Nat.reducePow, Int.reducePow, and_true, true_and, and_self] <;> omega)) ?_
  intro A w hF hH
  refine wpList_nil ?_
  refine cond_f hF rfl rfl ?_
  refine wp_exit ?_
  repeat (first | refine then_exit ?_ | refine ng_exit ?_ | refine blk_exit ?_ | refine blk_exit_ne rfl ?_)
  refine wp_seq ?_
  refine wp_region_lit ?_
  refine ev0 [0, 0, 0, 0] tab hF hH rfl (by first | exact trivial | (simp only [All, inK_i64, inK_u64, inK_u32, inK_u8, inK_i32, max_i64, max_u64, IntKind.bits, Int.reduceToNat, Int.reduceAdd, Nat.reducePow, Int.reducePow, and_true, true_and, and_self] <;> omega)) ?_
  intro A w hF hH
  refine list_act hF rfl ?_
  refine op_call hF rfl rfl rfl rfl rfl rfl isF80 (insert_nil hH) ?_
  rintro e w ⟨rfl, hH⟩
  refine ⟨_, rfl, fun A hF => ?_⟩
  refine wpList_nil ?_
  refine wp_block ?_
  refine loop_j (fun (_ : Unit) A w => Fr 63 A [(6, .int .i64 20), (1, .int .i64 0)] ∧ Hp κ w C) (fun _ => 0) () ⟨Fr.to hF ⟨rfl, rfl, trivial⟩, hH⟩ ?_
  rintro u A w ⟨hF, hH⟩
  refine wp_seq ?_
  refine wp_seq ?_
  refine wp_region_lit ?_
  refine ev0 [0, 0, 2] tab hF hH rfl (by first | exact trivial | (simp only [All, inK_i64, inK_u64, inK_u32, inK_u8, inK_i32, max_i64, max_u64, IntKind.bits, Int.reduceToNat, Int.reduceAdd, Nat.reducePow, Int.reducePow, and_true, true_and, and_self] <;> omega)) ?_
  intro A w hF hH
  refine wpList_nil ?_
  refine cond_f hF rfl rfl ?_
  refine wp_exit ?_
  repeat (first | refine then_exit ?_ | refine ng_exit ?_ | refine blk_exit ?_ | refine blk_exit_ne rfl ?_)
  refine fin (M := []) (hs := []) tab hF hH rfl (by first | exact trivial | (simp only [All, inK_i64, inK_u64, inK_u32, inK_u8, inK_i32, max_i64, max_u64, IntKind.bits, Int.reduceToNat, Int.reduceAdd, Nat.reducePow, Int.reducePow, and_true, true_and, and_self] <;> omega)) ?_
  exact ⟨rfl, hH⟩
set_option maxRecDepth 20000 in
theorem sortst_calls {v : Value} (js : List Prt) (hl : js.length ≤ 1000000) (hH : Hp κ w (osl v 40 5 js.length (js.flatMap jenc) :: C)) : Calls Try.prog 42 #[v, .func (.func 37) #[] #[]] w
    (fun e w' => e = .returned (.tuple #[]) ∧ ∃ S : List Prt, S.Perm js ∧ Srt S ∧ Hp κ w' (osl v 40 5 S.length (S.flatMap jenc) :: C)) := by
  rcases osl_cases hH with ⟨rfl, h0, _, _⟩ | ⟨b, cap, cur, rfl, h3, h4, h5, h6, hR⟩
  · have hj : js = [] := List.eq_nil_of_length_eq_zero h0
    subst hj
    refine enter (args := [.slice none 0 0, .func (.func 37) #[] #[]]) Try.func42 rfl rfl ?_
    intro A hF
    refine wp_region_lit ?_
    refine ev0 [0, 0, 0, 0] tab hF hH rfl (by first | exact trivial | (simp only [All, inK_i64, inK_u64, inK_u32, inK_u8, inK_i32, max_i64, max_u64, IntKind.bits, Int.reduceToNat, Int.reduceAdd, Nat.reducePow, Int.reducePow, and_true, true_and, and_self] <;> omega)) ?_
    intro A w hF hH
    refine list_act hF rfl ?_
    refine op_call hF rfl rfl rfl rfl rfl rfl isF66 (stable_nil hH) ?_
    rintro e w ⟨rfl, hH⟩
    refine ⟨_, rfl, fun A hF => ?_⟩
    refine wpList_nil ?_
    refine fin (M := []) (hs := []) tab hF hH rfl (by first | exact trivial | (simp only [All, inK_i64, inK_u64, inK_u32, inK_u8, inK_i32, max_i64, max_u64, IntKind.bits, Int.reduceToNat, Int.reduceAdd, Nat.reducePow, Int.reducePow, and_true, true_and, and_self] <;> omega)) ?_
    exact ⟨rfl, [], List.Perm.refl _, List.Pairwise.nil, hH⟩
  · refine enter (args := [.slice (some ⟨b, 0, none⟩) js.length cap, .func (.func 37) #[] #[]]) Try.func42 rfl rfl ?_
    intro A hF
    refine wp_region_lit ?_
    have e : js.flatMap jenc ++ cur.drop (js.length * 5) = cur := by rw [← h6]; exact List.take_append_drop _ _
    rw [← e] at hR
    have hH := hR
    refine ev0 [0, 0, 0, 0] tab hF hH rfl (by first | exact trivial | (simp only [All, inK_i64, inK_u64, inK_u32, inK_u8, inK_i32, max_i64, max_u64, IntKind.bits, Int.reduceToNat, Int.reduceAdd, Nat.reducePow, Int.reducePow, and_true, true_and, and_self] <;> omega)) ?_
    intro A w hF hH
    refine list_act hF rfl ?_
    refine op_call hF rfl rfl rfl rfl rfl rfl isF66 (stable_calls js _ rfl h3 hl hH) ?_
    rintro e w ⟨rfl, S, hSp, hSs, hH⟩
    refine ⟨_, rfl, fun A hF => ?_⟩
    refine wpList_nil ?_
    refine fin (M := []) (hs := []) tab hF hH rfl (by first | exact trivial | (simp only [All, inK_i64, inK_u64, inK_u32, inK_u8, inK_i32, max_i64, max_u64, IntKind.bits, Int.reduceToNat, Int.reduceAdd, Nat.reducePow, Int.reducePow, and_true, true_and, and_self] <;> omega)) ?_
    rw [← hSp.length_eq]
    refine ⟨rfl, S, hSp, hSs, osl_mk hH (by rw [hSp.length_eq]; exact h3) h4 ?_ ?_⟩
    · rw [lenJ, hSp.length_eq, ← lenJ, e]; exact h5
    · rw [← flatJ_len]; exact List.take_left
end
end Go.Proofs.Try
