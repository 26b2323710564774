/- Contracts of the supertask's functions: parts that may be, their weights, what they use. -/
import Derived.Test.YtfapcagleghlaaaQc
set_option linter.all false
namespace Go.Proofs.Try
open Go Go.Sep

/-- A part that the laws make. -/
def POk (p : Int × Int) : Prop := 1 ≤ p.1 ∧ p.1 ≤ p.2 ∧ p.2 ≤ 24
theorem POk.w {p : Int × Int} (h : POk p) : WOk p := ⟨h.1, h.2.1, Int.le_trans h.2.2 (by decide)⟩
section
variable {κ : K} {w : World} {C : List HP}
set_option maxRecDepth 20000 in
theorem wcheck_calls {E P : Int} (h : POk (E, P)) (hH : Hp κ w C) : Calls Try.prog 51 #[.agg #[.int .i64 E, .int .i64 P]] w (fun e w' => e = .returned (.bool true) ∧ Hp κ w' C) := by
  obtain ⟨h1, h2, h3⟩ := h
  simp only at h1 h2 h3
  refine enter (args := [.agg #[.int .i64 E, .int .i64 P]]) Try.func51 rfl rfl ?_
  intro A hF
  refine wp_seq ?_
  refine wp_region_lit ?_
  refine list_act hF rfl ?_
  refine op_box hF rfl rfl rfl rfl rfl hH ?_
  intro b A w hF hH
  refine evM [⟨b, [.int .i64 E, .int .i64 P], 28⟩] [0] tab hF hH rfl (by first | exact trivial | (simp only [All, inK_i64, inK_u64, inK_u32, inK_u8, inK_i32, max_i64, max_u64, IntKind.bits, Int.reduceToNat, Int.reduceAdd, Nat.reducePow, Int.reducePow, and_true, true_and, and_self] <;> omega)) ?_
  intro A w hF hH
  refine wpList_nil ?_
  refine wp_seq ?_
  refine wp_region_lit ?_
  refine evM [⟨b, [.int .i64 E, .int .i64 P], 28⟩] [0, 0, 1, 0, 0, 0, 0, 0, 1, 0, 0, 0, 0, 1, 0, 0] tab hF hH rfl (by first | exact trivial | (simp only [All, inK_i64, inK_u64, inK_u32, inK_u8, inK_i32, max_i64, max_u64, IntKind.bits, Int.reduceToNat, Int.reduceAdd, Nat.reducePow, Int.reducePow, and_true, true_and, and_self] <;> omega)) ?_
  intro A w hF hH
  refine wpList_nil ?_
  refine wp_ret ?_
  repeat (first | refine then_ret ?_ | refine blk_ret ?_ | refine ng_ret ?_)
  refine ret (M := []) (hs := []) tab hF hH rfl (by first | exact trivial | (simp only [All, inK_i64, inK_u64, inK_u32, inK_u8, inK_i32, max_i64, max_u64, IntKind.bits, Int.reduceToNat, Int.reduceAdd, Nat.reducePow, Int.reducePow, and_true, true_and, and_self] <;> omega)) ?_
  exact ⟨rfl, hH.tail⟩
set_option maxRecDepth 20000 in
theorem weight_calls (E P : Int) (hH : Hp κ w C) : Calls Try.prog 52 #[.agg #[.int .i64 E, .int .i64 P]] w (fun e w' => e = .returned (.agg #[.int .i64 E, .int .i64 P]) ∧ Hp κ w' C) := by
  refine enter (args := [.agg #[.int .i64 E, .int .i64 P]]) Try.func52 rfl rfl ?_
  intro A hF
  refine wp_seq ?_
  refine wp_region_lit ?_
  refine list_act hF rfl ?_
  refine op_box hF rfl rfl rfl rfl rfl hH ?_
  intro b1 A w hF hH
  refine list_act hF rfl ?_
  refine op_alloc hF tab rfl rfl rfl rfl rfl hH ?_
  intro b A w hF hH
  refine wpList_nil ?_
  refine wp_seq ?_
  refine wp_region_lit ?_
  refine evM [⟨b, [.int .i64 0, .int .i64 0], 28⟩, ⟨b1, [.int .i64 E, .int .i64 P], 45⟩] [2, 0] tab hF hH rfl (by first | exact trivial | (simp only [All, inK_i64, inK_u64, inK_u32, inK_u8, inK_i32, max_i64, max_u64, IntKind.bits, Int.reduceToNat, Int.reduceAdd, Nat.reducePow, Int.reducePow, and_true, true_and, and_self] <;> omega)) ?_
  intro A w hF hH
  refine wpList_nil ?_
  refine wp_ret ?_
  repeat (first | refine then_ret ?_ | refine blk_ret ?_ | refine ng_ret ?_)
  refine ret (M := [⟨b, [.int .i64 E, .int .i64 P], 28⟩]) (hs := [0]) tab hF hH rfl (by first | exact trivial | (simp only [All, inK_i64, inK_u64, inK_u32, inK_u8, inK_i32, max_i64, max_u64, IntKind.bits, Int.reduceToNat, Int.reduceAdd, Nat.reducePow, Int.reducePow, and_true, true_and, and_self] <;> omega)) ?_
  exact ⟨rfl, hH.tail.tail⟩
set_option maxRecDepth 20000 in
theorem check1_calls {E P : Int} (h : POk (E, P)) (hH : Hp κ w C) : Calls Try.prog 50 #[.agg #[.int .i64 E, .int .i64 P]] w (fun e w' => e = .returned (.bool false) ∧ Hp κ w' C) := by
  refine enter (args := [.agg #[.int .i64 E, .int .i64 P]]) Try.func50 rfl rfl ?_
  intro A hF
  refine wp_seq ?_
  refine wp_region_lit ?_
  refine list_act hF rfl ?_
  refine op_box hF rfl rfl rfl rfl rfl hH ?_
  intro b A w hF hH
  refine evM [⟨b, [.int .i64 E, .int .i64 P], 45⟩] [0] tab hF hH rfl (by first | exact trivial | (simp only [All, inK_i64, inK_u64, inK_u32, inK_u8, inK_i32, max_i64, max_u64, IntKind.bits, Int.reduceToNat, Int.reduceAdd, Nat.reducePow, Int.reducePow, and_true, true_and, and_self] <;> omega)) ?_
  intro A w hF hH
  refine wpList_nil ?_
  refine wp_seq ?_
  refine wp_region_lit ?_
  refine evM [⟨b, [.int .i64 E, .int .i64 P], 45⟩] [0] tab hF hH rfl (by first | exact trivial | (simp only [All, inK_i64, inK_u64, inK_u32, inK_u8, inK_i32, max_i64, max_u64, IntKind.bits, Int.reduceToNat, Int.reduceAdd, Nat.reducePow, Int.reducePow, and_true, true_and, and_self] <;> omega)) ?_
  intro A w hF hH
  refine list_act hF rfl ?_
  refine op_call hF rfl rfl rfl rfl rfl rfl isF52 (weight_calls E P hH) ?_
  rintro e w ⟨rfl, hH⟩
  refine ⟨_, rfl, fun A hF => ?_⟩
  refine list_act hF rfl ?_
  refine op_call hF rfl rfl rfl rfl rfl rfl isF51 (wcheck_calls h hH) ?_
  rintro e w ⟨rfl, hH⟩
  refine ⟨_, rfl, fun A hF => ?_⟩
  refine ev0 [0, 0] tab hF hH rfl (by first | exact trivial | (simp only [All, inK_i64, inK_u64, inK_u32, inK_u8, inK_i32, max_i64, max_u64, IntKind.bits, Int.reduceToNat, Int.reduceAdd, Nat.reducePow, Int.reducePow, and_true, true_and, and_self] <;> omega)) ?_
  intro A w hF hH
  refine wpList_nil ?_
  refine wp_ret ?_
  repeat (first | refine then_ret ?_ | refine blk_ret ?_ | refine ng_ret ?_)
  refine ret (M := []) (hs := []) tab hF hH rfl (by first | exact trivial | (simp only [All, inK_i64, inK_u64, inK_u32, inK_u8, inK_i32, max_i64, max_u64, IntKind.bits, Int.reduceToNat, Int.reduceAdd, Nat.reducePow, Int.reducePow, and_true, true_and, and_self] <;> omega)) ?_
  exact ⟨rfl, hH.tail⟩
set_option maxRecDepth 20000 in
theorem index_calls {v : Value} {ps : List (Int × Int)} (hv : Rd κ [] 2 wenc v ps) (hp : ∀ p ∈ ps, POk p) (hlen : ps.length ≤ 1000000) (hH : Hp κ w C) : Calls Try.prog 69 #[v, .func (.func 50) #[] #[]] w (fun e w' => e = .returned (.int .i64 (-1)) ∧ Hp κ w' C) := by
  obtain ⟨A0, cap, rfl, hcap⟩ := hv.form
  refine enter (args := [.slice A0 ps.length cap, .func (.func 50) #[] #[]]) Try.func69 rfl rfl ?_
  intro A hF
  refine wp_seq ?_
  refine wp_region_lit ?_
  refine ev0 [0] tab hF hH rfl (by first | exact trivial | (simp only [All, inK_i64, inK_u64, inK_u32, inK_u8, inK_i32, max_i64, max_u64, IntKind.bits, Int.reduceToNat, Int.reduceAdd, Nat.reducePow, Int.reducePow, and_true, true_and, and_self] <;> omega)) ?_
  intro A w hF hH
  refine wpList_nil ?_
  refine wp_seq ?_
  refine wp_seq ?_
  refine wp_region_lit ?_
  refine ev0 [0, 0, 0] tab hF hH rfl (by first | exact trivial | (simp only [All, inK_i64, inK_u64, inK_u32, inK_u8, inK_i32, max_i64, max_u64, IntKind.bits, Int.reduceToNat, Int.reduceAdd, Nat.reducePow, Int.reducePow, and_true, true_and, and_self] <;> omega)) ?_
  intro A w hF hH
  refine wpList_nil ?_
  refine wp_block ?_
  refine loop_j (fun (i : Nat) A w => i ≤ ps.length ∧ Fr 19 A [(8, .int .i64 i), (7, .int .i64 ps.length), (0, .slice A0 ps.length cap), (1, .func (.func 50) #[] #[])] ∧ Hp κ w C) (fun i => ps.length - i) 0 ⟨Nat.zero_le _, Fr.to hF ⟨rfl, rfl, rfl, rfl, trivial⟩, hH⟩ ?_
  rintro i A w ⟨hi, hF, hH⟩
  refine wp_seq ?_
  refine wp_region_lit ?_
  by_cases hlt : i < ps.length
  · refine ev0 [1] tab hF hH rfl (by first | exact trivial | (simp only [All, inK_i64, inK_u64, inK_u32, inK_u8, inK_i32, max_i64, max_u64, IntKind.bits, Int.reduceToNat, Int.reduceAdd, Nat.reducePow, Int.reducePow, and_true, true_and, and_self] <;> omega)) ?_
    intro A w hF hH
    refine wpList_nil ?_
    refine wp_seq ?_
    refine cond_t hF rfl rfl ?_
    refine wp_skip ?_
    refine wp_seq ?_
    refine wp_block ?_
    refine wp_seq ?_
    refine wp_region_lit ?_
    obtain ⟨b0, off0, rfl⟩ := hv.addr (by omega)
    have hpi := hp ps[i] (List.getElem_mem hlt)
    refine ev0 [0, 0] tab hF hH rfl (by first | exact trivial | (simp only [All, inK_i64, inK_u64, inK_u32, inK_u8, inK_i32, max_i64, max_u64, IntKind.bits, Int.reduceToNat, Int.reduceAdd, Nat.reducePow, Int.reducePow, and_true, true_and, and_self] <;> omega)) ?_
    intro A w hF hH
    refine wpList_nil ?_
    refine wp_seq ?_
    refine wp_region_lit ?_
    refine evF [] [] (LFok.cons (hv.at_ (fun _ _ => rfl) i hlt) (LFok.nil _ _)) [0, 0, 0, 0, 1] tab hF hH rfl (by first | exact trivial | (simp only [All, inK_i64, inK_u64, inK_u32, inK_u8, inK_i32, max_i64, max_u64, IntKind.bits, Int.reduceToNat, Int.reduceAdd, Nat.reducePow, Int.reducePow, and_true, true_and, and_self] <;> omega)) ?_
    intro A w hF hH
    refine list_act hF rfl ?_
    refine op_call hF rfl rfl rfl rfl rfl rfl isF50 (check1_calls hpi hH) ?_
    rintro e w ⟨rfl, hH⟩
    refine ⟨_, rfl, fun A hF => ?_⟩
    refine wpList_nil ?_
    refine cond_f hF rfl rfl ?_
    refine wp_skip ?_
    refine wp_region_lit ?_
    refine ev0 [0, 0] tab hF hH rfl (by first | exact trivial | (simp only [All, inK_i64, inK_u64, inK_u32, inK_u8, inK_i32, max_i64, max_u64, IntKind.bits, Int.reduceToNat, Int.reduceAdd, Nat.reducePow, Int.reducePow, and_true, true_and, and_self] <;> omega)) ?_
    intro A w hF hH
    refine wpList_nil ?_
    refine ⟨i + 1, ⟨by omega, Fr.to hF ⟨rfl, rfl, rfl, rfl, trivial⟩, hH⟩, by omega⟩
  · skip
    refine ev0 [2] tab hF hH rfl (by first | exact trivial | (simp only [All, inK_i64, inK_u64, inK_u32, inK_u8, inK_i32, max_i64, max_u64, IntKind.bits, Int.reduceToNat, Int.reduceAdd, Nat.reducePow, Int.reducePow, and_true, true_and, and_self] <;> omega)) ?_
    intro A w hF hH
    refine wpList_nil ?_
    refine wp_seq ?_
    refine cond_f hF rfl rfl ?_
    refine wp_exit ?_
    repeat (first | refine then_exit ?_ | refine ng_exit ?_ | refine blk_exit ?_ | refine blk_exit_ne rfl ?_)
    refine wp_seq ?_
    refine wp_region_lit ?_
    refine ev0 [0] tab hF hH rfl (by first | exact trivial | (simp only [All, inK_i64, inK_u64, inK_u32, inK_u8, inK_i32, max_i64, max_u64, IntKind.bits, Int.reduceToNat, Int.reduceAdd, Nat.reducePow, Int.reducePow, and_true, true_and, and_self] <;> omega)) ?_
    intro A w hF hH
    refine wpList_nil ?_
    refine wp_ret ?_
    repeat (first | refine then_ret ?_ | refine blk_ret ?_ | refine ng_ret ?_)
    refine ret (M := []) (hs := []) tab hF hH rfl (by first | exact trivial | (simp only [All, inK_i64, inK_u64, inK_u32, inK_u8, inK_i32, max_i64, max_u64, IntKind.bits, Int.reduceToNat, Int.reduceAdd, Nat.reducePow, Int.reducePow, and_true, true_and, and_self] <;> omega)) ?_
    exact ⟨rfl, hH⟩
set_option maxRecDepth 20000 in
theorem contains_calls {v : Value} {ps : List (Int × Int)} (hv : Rd κ [] 2 wenc v ps) (hp : ∀ p ∈ ps, POk p) (hlen : ps.length ≤ 1000000) (hH : Hp κ w C) : Calls Try.prog 49 #[v, .func (.func 50) #[] #[]] w (fun e w' => e = .returned (.bool false) ∧ Hp κ w' C) := by
  refine enter (args := [v, .func (.func 50) #[] #[]]) Try.func49 rfl rfl ?_
  intro A hF
  refine wp_seq ?_
  refine wp_region_lit ?_
  refine ev0 [0] tab hF hH rfl (by first | exact trivial | (simp only [All, inK_i64, inK_u64, inK_u32, inK_u8, inK_i32, max_i64, max_u64, IntKind.bits, Int.reduceToNat, Int.reduceAdd, Nat.reducePow, Int.reducePow, and_true, true_and, and_self] <;> omega)) ?_
  intro A w hF hH
  refine wpList_nil ?_
  refine wp_seq ?_
  refine wp_region_lit ?_
  refine ev0 [0, 0] tab hF hH rfl (by first | exact trivial | (simp only [All, inK_i64, inK_u64, inK_u32, inK_u8, inK_i32, max_i64, max_u64, IntKind.bits, Int.reduceToNat, Int.reduceAdd, Nat.reducePow, Int.reducePow, and_true, true_and, and_self] <;> omega)) ?_
  intro A w hF hH
  refine list_act hF rfl ?_
  refine op_call hF rfl rfl rfl rfl rfl rfl isF69 (index_calls hv hp hlen hH) ?_
  rintro e w ⟨rfl, hH⟩
  refine ⟨_, rfl, fun A hF => ?_⟩
  refine ev0 [2, 0] tab hF hH rfl (by first | exact trivial | (simp only [All, inK_i64, inK_u64, inK_u32, inK_u8, inK_i32, max_i64, max_u64, IntKind.bits, Int.reduceToNat, Int.reduceAdd, Nat.reducePow, Int.reducePow, and_true, true_and, and_self] <;> omega)) ?_
  intro A w hF hH
  refine wpList_nil ?_
  refine wp_ret ?_
  repeat (first | refine then_ret ?_ | refine blk_ret ?_ | refine ng_ret ?_)
  refine ret (M := []) (hs := []) tab hF hH rfl (by first | exact trivial | (simp only [All, inK_i64, inK_u64, inK_u32, inK_u8, inK_i32, max_i64, max_u64, IntKind.bits, Int.reduceToNat, Int.reduceAdd, Nat.reducePow, Int.reducePow, and_true, true_and, and_self] <;> omega)) ?_
  exact ⟨rfl, hH⟩
set_option maxRecDepth 20000 in
theorem check_calls {v : Value} {ps : List (Int × Int)} (hv : Rd κ [] 2 wenc v ps) (hp : ∀ p ∈ ps, POk p) (hlen : ps.length ≤ 8) (hH : Hp κ w C) : Calls Try.prog 25 #[v] w (fun e w' => e = .returned (.bool (decide (ps ≠ []))) ∧ Hp κ w' C) := by
  have hv0 := hv
  obtain ⟨A0, cap, rfl, hcap⟩ := hv.form
  have hne : ps ≠ [] ↔ 0 < ps.length := by rw [List.length_pos_iff]
  refine enter (args := [.slice A0 ps.length cap]) Try.func25 rfl rfl ?_
  intro A hF
  refine wp_seq ?_
  refine wp_region_lit ?_
  refine ev0 [0] tab hF hH rfl (by first | exact trivial | (simp only [All, inK_i64, inK_u64, inK_u32, inK_u8, inK_i32, max_i64, max_u64, IntKind.bits, Int.reduceToNat, Int.reduceAdd, Nat.reducePow, Int.reducePow, and_true, true_and, and_self] <;> omega)) ?_
  intro A w hF hH
  refine wpList_nil ?_
  refine wp_seq ?_
  refine wp_region_lit ?_
  by_cases h : 0 < ps.length
  · refine ev0 [0, 0, 1, 0, 0, 0, 1, 0, 0, 0] tab hF hH rfl (by first | exact trivial | (simp only [All, inK_i64, inK_u64, inK_u32, inK_u8, inK_i32, max_i64, max_u64, IntKind.bits, Int.reduceToNat, Int.reduceAdd, Nat.reducePow, Int.reducePow, and_true, true_and, and_self] <;> omega)) ?_
    intro A w hF hH
    refine list_act hF rfl ?_
    refine op_call hF rfl rfl rfl rfl rfl rfl isF49 (contains_calls hv0 hp (by omega) hH) ?_
    rintro e w ⟨rfl, hH⟩
    refine ⟨_, rfl, fun A hF => ?_⟩
    refine ev0 [0, 0, 0] tab hF hH rfl (by first | exact trivial | (simp only [All, inK_i64, inK_u64, inK_u32, inK_u8, inK_i32, max_i64, max_u64, IntKind.bits, Int.reduceToNat, Int.reduceAdd, Nat.reducePow, Int.reducePow, and_true, true_and, and_self] <;> omega)) ?_
    intro A w hF hH
    refine wpList_nil ?_
    refine wp_ret ?_
    repeat (first | refine then_ret ?_ | refine blk_ret ?_ | refine ng_ret ?_)
    refine ret (M := []) (hs := []) tab hF hH rfl (by first | exact trivial | (simp only [All, inK_i64, inK_u64, inK_u32, inK_u8, inK_i32, max_i64, max_u64, IntKind.bits, Int.reduceToNat, Int.reduceAdd, Nat.reducePow, Int.reducePow, and_true, true_and, and_self] <;> omega)) ?_
    exact ⟨by simp [hne.2 h]; rfl, hH⟩
  · have e0 : ps = [] := List.eq_nil_of_length_eq_zero (by omega)
    subst e0
    refine ev0 [0, 0, 0, 0, 0, 0, 0, 0, 0, 0, 0, 0, 0, 0] tab hF hH rfl (by first | exact trivial | (simp only [All, inK_i64, inK_u64, inK_u32, inK_u8, inK_i32, max_i64, max_u64, IntKind.bits, Int.reduceToNat, Int.reduceAdd, Nat.reducePow, Int.reducePow, and_true, true_and, and_self] <;> omega)) ?_
    intro A w hF hH
    refine wpList_nil ?_
    refine wp_ret ?_
    repeat (first | refine then_ret ?_ | refine blk_ret ?_ | refine ng_ret ?_)
    refine ret (M := []) (hs := []) tab hF hH rfl (by first | exact trivial | (simp only [All, inK_i64, inK_u64, inK_u32, inK_u8, inK_i32, max_i64, max_u64, IntKind.bits, Int.reduceToNat, Int.reduceAdd, Nat.reducePow, Int.reducePow, and_true, true_and, and_self] <;> omega)) ?_
    exact ⟨rfl, hH⟩
end
end Go.Proofs.Try
