/- Contracts of the supertask's functions: the jobs of a part, up to a slot. -/
import Derived.Test.YtfapcagleghlaaaYi
import Derived.Test.YtfapcagleghlaaaYj
set_option linter.all false
namespace Go.Proofs.Try
open Go Go.Sep

/-- The jobs of a part that are released by a slot, n at most. -/
def relF (at_ : Int) : Nat → Prt → List Prt
  | 0, _ => []
  | n + 1, p => if p.rel ≤ at_ then p :: relF at_ n (nextP p) else []
theorem relF_len (at_ : Int) : ∀ n p, (relF at_ n p).length ≤ n
  | 0, _ => Nat.le_refl _
  | n + 1, p => by
    unfold relF
    split
    · simp only [List.length_cons]; have := relF_len at_ n (nextP p); omega
    · exact Nat.zero_le _
theorem osl_form {κ : K} {w : World} {C : List HP} {v : Value} {E sz m : Nat} {cs : List Value} (h : Hp κ w (osl v E sz m cs :: C)) : ∃ A cap, v = .slice A m cap := by
  rcases osl_cases h with ⟨rfl, rfl, _⟩ | ⟨b, cap, cur, rfl, _⟩
  · exact ⟨_, _, rfl⟩
  · exact ⟨_, _, rfl⟩
theorem nextP_inv {a0 : Int} {p : Prt} (h : PInv a0 p) : PInv a0 (nextP p) := by
  obtain ⟨h1, h2, h3, h4, h5, h6, h7, h8⟩ := h
  refine ⟨h1, h2, h3, by simp only [nextP]; omega, ?_, ?_, h1, Int.le_refl _⟩
  · simp only [nextP, h6, Int.mul_add]; omega
  · simp only [nextP, h6, Int.mul_add]; omega
theorem PInv.fit {a0 at_ : Int} {p : Prt} (h : PInv a0 p) (ha0 : 0 ≤ a0) (h1 : p.rel ≤ at_) (h2 : at_ ≤ 1099511627776) : PFit p := by
  obtain ⟨g1, g2, g3, g4, g5, g6, g7, g8⟩ := h
  have a1 : 1 * p.idx ≤ p.P * p.idx := Int.mul_le_mul_of_nonneg_right (by omega) g4
  refine ⟨g1, g2, g3, g4, ?_, ?_, ?_, ?_, ?_, ?_, ?_⟩ <;> omega
section
variable {κ : K} {w : World} {C : List HP}
set_option maxRecDepth 20000 in
theorem each_calls {p : Prt} {a0 at_ : Int} {b3 : Nat} (hp : PInv a0 p) (ha0 : 0 ≤ a0) (hat : at_ ≤ 1099511627776) (hH : Hp κ w (row b3 [.int .i64 at_] 2 :: C)) :
    Calls Try.prog 40 #[.agg #[.int .i64 p.E, .int .i64 p.P, .int .i64 p.k, .int .i64 p.idx, .int .i64 p.rel, .int .i64 p.dl, .int .i64 p.left], .func (.func 41) #[] #[.pointer (some ⟨b3, 0, none⟩)]] w
    (fun e w' => ∃ v, e = .returned v ∧ Hp κ w' (osl v 40 5 (relF at_ 1000 p).length ((relF at_ 1000 p).flatMap jenc) :: row b3 [.int .i64 at_] 2 :: C)) := by
  refine enter (args := [.agg #[.int .i64 p.E, .int .i64 p.P, .int .i64 p.k, .int .i64 p.idx, .int .i64 p.rel, .int .i64 p.dl, .int .i64 p.left], .func (.func 41) #[] #[.pointer (some ⟨b3, 0, none⟩)]]) Try.func40 rfl rfl ?_
  intro A hF
  refine wp_seq ?_
  refine wp_region_lit ?_
  refine list_act hF rfl ?_
  refine op_box hF rfl rfl rfl rfl rfl hH ?_
  intro b2 A w hF hH
  refine ev0 [0] tab hF hH rfl (by first | exact trivial | (simp only [All, inK_i64, inK_u64, inK_u32, inK_u8, inK_i32, max_i64, max_u64, IntKind.bits, Int.reduceToNat, Int.reduceAdd, Nat.reducePow, Int.reducePow, and_true, true_and, and_self] <;> omega)) ?_
  intro A w hF hH
  refine wpList_nil ?_
  refine wp_seq ?_
  refine wp_region_lit ?_
  refine ev0 [0] tab hF hH rfl (by first | exact trivial | (simp only [All, inK_i64, inK_u64, inK_u32, inK_u8, inK_i32, max_i64, max_u64, IntKind.bits, Int.reduceToNat, Int.reduceAdd, Nat.reducePow, Int.reducePow, and_true, true_and, and_self] <;> omega)) ?_
  intro A w hF hH
  refine wpList_nil ?_
  refine wp_seq ?_
  refine wp_block ?_
  have hH := (osl_nil 40 5 hH).focus 1 rfl
  refine loop_j (fun (k : Nat) A w => k ≤ 1000 ∧ ∃ (A0 : Option Addr) (cap : Nat) (acc : List Prt) (q : Prt), acc.length = k ∧ acc ++ relF at_ (1000 - k) q = relF at_ 1000 p ∧ PInv a0 q ∧ Fr 22 A [(2, .pointer (some ⟨b2, 0, none⟩)), (5, .slice A0 k cap), (1, .func (.func 41) #[] #[.pointer (some ⟨b3, 0, none⟩)])] ∧ Hp κ w (row b2 (penc q) 74 :: osl (.slice A0 k cap) 40 5 k (acc.flatMap jenc) :: row b3 [.int .i64 at_] 2 :: C)) (fun k => 1000 - k) 0 ⟨Nat.zero_le _, none, 0, [], p, rfl, rfl, hp, Fr.to hF ⟨rfl, rfl, rfl, trivial⟩, hH⟩ ?_
  rintro k A w ⟨hk, A0, cap, acc, q, hacc, hrel, hq, hF, hH⟩
  refine wp_seq ?_
  refine wp_seq ?_
  refine wp_region_lit ?_
  by_cases hlt : k < 1000
  · refine evM [⟨b2, penc q, 74⟩] [0, 0, 1, 0, 0, 0, 0] tab hF hH rfl (by first | exact trivial | (simp only [All, inK_i64, inK_u64, inK_u32, inK_u8, inK_i32, max_i64, max_u64, IntKind.bits, Int.reduceToNat, Int.reduceAdd, Nat.reducePow, Int.reducePow, and_true, true_and, and_self] <;> omega)) ?_
    intro A w hF hH
    have hH := hH.focus 2 rfl
    refine list_act hF rfl ?_
    refine op_call hF rfl rfl rfl rfl rfl rfl isF41 (isrel_calls q at_ hH) ?_
    rintro e w ⟨rfl, hH⟩
    refine ⟨_, rfl, fun A hF => ?_⟩
    have hH := hH.focus 1 rfl
    obtain ⟨n, hn⟩ : ∃ n, 1000 - k = n + 1 := ⟨999 - k, by omega⟩
    rw [hn] at hrel
    by_cases hr : q.rel ≤ at_
    · rw [show decide (q.rel ≤ at_) = true from by simpa using hr] at hF
      refine ev0 [0] tab hF hH rfl (by first | exact trivial | (simp only [All, inK_i64, inK_u64, inK_u32, inK_u8, inK_i32, max_i64, max_u64, IntKind.bits, Int.reduceToNat, Int.reduceAdd, Nat.reducePow, Int.reducePow, and_true, true_and, and_self] <;> omega)) ?_
      intro A w hF hH
      refine wpList_nil ?_
      refine cond_t hF rfl rfl ?_
      refine wp_skip ?_
      refine wp_block ?_
      refine wp_seq ?_
      refine wp_region_lit ?_
      refine evM [⟨b2, penc q, 74⟩] [0, 0, 0] tab hF hH rfl (by first | exact trivial | (simp only [All, inK_i64, inK_u64, inK_u32, inK_u8, inK_i32, max_i64, max_u64, IntKind.bits, Int.reduceToNat, Int.reduceAdd, Nat.reducePow, Int.reducePow, and_true, true_and, and_self] <;> omega)) ?_
      intro A w hF hH
      refine list_act hF rfl ?_
      refine op_buildSlice hF tab rfl rfl rfl rfl rfl rfl rfl rfl hH ?_
      intro bs A w hF hH
      have hat2 := row_at hH (off := 0) (vs := jenc q) (fun j u h => by rw [Nat.zero_add]; exact h)
      have hH := hH.tail.focus 2 rfl
      refine list_act hF rfl ?_
      refine op_append hF tab rfl rfl rfl rfl rfl rfl rfl rfl hH hat2 rfl rfl (by simp [maxLen]; omega) (by simp; omega) ?_
      intro v A w hF hH
      obtain ⟨A1, cap1, rfl⟩ := osl_form hH
      have hH := hH.focus 1 rfl
      refine ev0 [0] tab hF hH rfl (by first | exact trivial | (simp only [All, inK_i64, inK_u64, inK_u32, inK_u8, inK_i32, max_i64, max_u64, IntKind.bits, Int.reduceToNat, Int.reduceAdd, Nat.reducePow, Int.reducePow, and_true, true_and, and_self] <;> omega)) ?_
      intro A w hF hH
      refine wpList_nil ?_
      refine wp_region_lit ?_
      have hfit := hq.fit ha0 hr hat
      refine list_act hF rfl ?_
      refine op_call hF rfl rfl rfl rfl rfl rfl isF38 (next_calls (b := b2) [] [] q hfit (by rw [List.nil_append, List.append_nil]; exact hH)) ?_
      rintro e w ⟨rfl, hH⟩
      refine ⟨_, rfl, fun A hF => ?_⟩
      refine wpList_nil ?_
      rw [List.nil_append, List.append_nil] at hH
      refine ⟨k + 1, ⟨by omega, A1, cap1, acc ++ [q], nextP q, by simp [hacc], ?_, nextP_inv hq, Fr.to hF ⟨rfl, rfl, rfl, trivial⟩, ?_⟩, by omega⟩
      · rw [show 1000 - (k + 1) = n from by omega, ← hrel]
        simp [relF, hr]
      · rw [show (acc ++ [q]).flatMap jenc = acc.flatMap jenc ++ jenc q from by simp]; exact hH
    · skip
      rw [show decide (q.rel ≤ at_) = false from by simpa using hr] at hF
      have hend : acc = relF at_ 1000 p := by rw [← hrel]; simp [relF, hr]
      refine ev0 [0] tab hF hH rfl (by first | exact trivial | (simp only [All, inK_i64, inK_u64, inK_u32, inK_u8, inK_i32, max_i64, max_u64, IntKind.bits, Int.reduceToNat, Int.reduceAdd, Nat.reducePow, Int.reducePow, and_true, true_and, and_self] <;> omega)) ?_
      intro A w hF hH
      refine wpList_nil ?_
      refine cond_f hF rfl rfl ?_
      refine wp_exit ?_
      repeat (first | refine then_exit ?_ | refine ng_exit ?_ | refine blk_exit ?_ | refine blk_exit_ne rfl ?_)
      refine wp_seq ?_
      refine wp_region_lit ?_
      refine ev0 [0, 0] tab hF hH rfl (by first | exact trivial | (simp only [All, inK_i64, inK_u64, inK_u32, inK_u8, inK_i32, max_i64, max_u64, IntKind.bits, Int.reduceToNat, Int.reduceAdd, Nat.reducePow, Int.reducePow, and_true, true_and, and_self] <;> omega)) ?_
      intro A w hF hH
      refine wpList_nil ?_
      refine wp_ret ?_
      repeat (first | refine then_ret ?_ | refine blk_ret ?_ | refine ng_ret ?_)
      refine ret (M := []) (hs := []) tab hF hH rfl (by first | exact trivial | (simp only [All, inK_i64, inK_u64, inK_u32, inK_u8, inK_i32, max_i64, max_u64, IntKind.bits, Int.reduceToNat, Int.reduceAdd, Nat.reducePow, Int.reducePow, and_true, true_and, and_self] <;> omega)) ?_
      refine ⟨_, rfl, ?_⟩
      rw [← hend, hacc]
      exact hH.tail.swap
  · skip
    have hk0 : k = 1000 := by omega
    have hend : acc = relF at_ 1000 p := by rw [← hrel, hk0]; simp [relF]
    refine evM [⟨b2, penc q, 74⟩] [0, 0, 2, 0, 0, 0, 0, 0, 0] tab hF hH rfl (by first | exact trivial | (simp only [All, inK_i64, inK_u64, inK_u32, inK_u8, inK_i32, max_i64, max_u64, IntKind.bits, Int.reduceToNat, Int.reduceAdd, Nat.reducePow, Int.reducePow, and_true, true_and, and_self] <;> omega)) ?_
    intro A w hF hH
    refine wpList_nil ?_
    refine cond_f hF rfl rfl ?_
    refine wp_exit ?_
    repeat (first | refine then_exit ?_ | refine ng_exit ?_ | refine blk_exit ?_ | refine blk_exit_ne rfl ?_)
    refine wp_seq ?_
    refine wp_region_lit ?_
    refine ev0 [0, 0] tab hF hH rfl (by first | exact trivial | (simp only [All, inK_i64, inK_u64, inK_u32, inK_u8, inK_i32, max_i64, max_u64, IntKind.bits, Int.reduceToNat, Int.reduceAdd, Nat.reducePow, Int.reducePow, and_true, true_and, and_self] <;> omega)) ?_
    intro A w hF hH
    refine wpList_nil ?_
    refine wp_ret ?_
    repeat (first | refine then_ret ?_ | refine blk_ret ?_ | refine ng_ret ?_)
    refine ret (M := []) (hs := []) tab hF hH rfl (by first | exact trivial | (simp only [All, inK_i64, inK_u64, inK_u32, inK_u8, inK_i32, max_i64, max_u64, IntKind.bits, Int.reduceToNat, Int.reduceAdd, Nat.reducePow, Int.reducePow, and_true, true_and, and_self] <;> omega)) ?_
    refine ⟨_, rfl, ?_⟩
    rw [← hend, hacc]
    exact hH.tail
end
end Go.Proofs.Try
