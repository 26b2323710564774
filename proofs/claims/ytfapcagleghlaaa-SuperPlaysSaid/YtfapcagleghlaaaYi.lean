/- Contracts of the supertask's functions: which jobs are released. -/
import Derived.Test.YtfapcagleghlaaaYa
set_option linter.all false
namespace Go.Proofs.Try
open Go Go.Sep

section
variable {κ : K} {w : World} {C : List HP}
set_option maxRecDepth 20000 in
theorem isrel_calls (p : Prt) (at_ : Int) {b3 : Nat} (hH : Hp κ w (row b3 [.int .i64 at_] 2 :: C)) : Calls Try.prog 41 #[jval p, .pointer (some ⟨b3, 0, none⟩)] w (fun e w' => e = .returned (.bool (decide (p.rel ≤ at_))) ∧ Hp κ w' (row b3 [.int .i64 at_] 2 :: C)) := by
  refine enter (args := [jval p, .pointer (some ⟨b3, 0, none⟩)]) Try.func41 rfl rfl ?_
  intro A hF
  refine wp_seq ?_
  refine wp_region_lit ?_
  refine list_act hF rfl ?_
  refine op_box hF rfl rfl rfl rfl rfl hH ?_
  intro b2 A w hF hH
  refine evM [⟨b2, jenc p, 40⟩, ⟨b3, [.int .i64 at_], 2⟩] [0] tab hF hH rfl (by first | exact trivial | (simp only [All, inK_i64, inK_u64, inK_u32, inK_u8, inK_i32, max_i64, max_u64, IntKind.bits, Int.reduceToNat, Int.reduceAdd, Nat.reducePow, Int.reducePow, and_true, true_and, and_self] <;> omega)) ?_
  intro A w hF hH
  refine wpList_nil ?_
  refine wp_seq ?_
  refine wp_region_lit ?_
  refine evM [⟨b2, jenc p, 40⟩, ⟨b3, [.int .i64 at_], 2⟩] [0, 0, 2, 0, 0] tab hF hH rfl (by first | exact trivial | (simp only [All, inK_i64, inK_u64, inK_u32, inK_u8, inK_i32, max_i64, max_u64, IntKind.bits, Int.reduceToNat, Int.reduceAdd, Nat.reducePow, Int.reducePow, and_true, true_and, and_self] <;> omega)) ?_
  intro A w hF hH
  refine wpList_nil ?_
  refine wp_ret ?_
  repeat (first | refine then_ret ?_ | refine blk_ret ?_ | refine ng_ret ?_)
  refine ret (M := []) (hs := []) tab hF hH rfl (by first | exact trivial | (simp only [All, inK_i64, inK_u64, inK_u32, inK_u8, inK_i32, max_i64, max_u64, IntKind.bits, Int.reduceToNat, Int.reduceAdd, Nat.reducePow, Int.reducePow, and_true, true_and, and_self] <;> omega)) ?_
  exact ⟨rfl, hH.tail⟩
end
end Go.Proofs.Try
