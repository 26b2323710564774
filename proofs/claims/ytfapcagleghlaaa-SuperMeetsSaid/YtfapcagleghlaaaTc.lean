/- Contracts of the document's windows: a subtask. Written by gen_of.py. -/
import Derived.Test.YtfapcagleghlaaaTb
set_option linter.all false
namespace Go.Proofs.Try
open Go Go.Sep

set_option maxRecDepth 20000 in
theorem rsub_calls {κ : K} {w : World} {C : List HP} {E P i : Int} (h : WOk (E, P)) (hi : 1 ≤ i) (hi2 : i ≤ 400) (hH : Hp κ w C) : Calls Try.prog 12 #[.agg #[.int .i64 E, .int .i64 P], .int .i64 i, .int .i64 0] w
    (fun e w' => ∃ bt g, e = .returned (.tuple #[.agg #[.int .i64 i, .int .i64 ((i - 1) * P / E), .int .i64 (upF (i * P) E), .int .i64 bt, .int .i64 g], .int .i64 0]) ∧ Hp κ w' C) := by
  have h0 := h
  obtain ⟨h1, h2, h3⟩ := h
  simp only at h1 h2 h3
  have hm : i * P ≤ 400 * 1048576 := Int.mul_le_mul hi2 h3 (by omega) (by omega)
  have hm0 : 0 ≤ i * P := Int.mul_nonneg (by omega) (by omega)
  have hr : (i - 1) * P ≤ 400 * 1048576 := Int.mul_le_mul (by omega) h3 (by omega) (by omega)
  have hr0 : 0 ≤ (i - 1) * P := Int.mul_nonneg (by omega) (by omega)
  have hr1 : 0 ≤ (i - 1) * P / E := Int.ediv_nonneg hr0 (by omega)
  have hr2 : (i - 1) * P / E ≤ (i - 1) * P := Int.ediv_le_self _ hr0
  obtain ⟨r1, r2, r3, r4, r5⟩ := upF_range hm0 h1
  refine enter (args := [.agg #[.int .i64 E, .int .i64 P], .int .i64 i, .int .i64 0]) Try.func12 rfl rfl ?_
  intro A hF
  refine wp_seq ?_
  refine wp_region_lit ?_
  refine list_act hF rfl ?_
  refine op_box hF rfl rfl rfl rfl rfl hH ?_
  intro b3 A w hF hH
  refine list_act hF rfl ?_
  refine op_alloc hF tab rfl rfl rfl rfl rfl hH ?_
  intro b6 A w hF hH
  refine ev0 [0] tab hF hH rfl (by first | exact trivial | (simp only [All, inK_i64, inK_u64, inK_u32, inK_u8, inK_i32, max_i64, max_u64, IntKind.bits, Int.reduceToNat, Int.reduceAdd, Nat.reducePow, Int.reducePow, and_true, true_and, and_self] <;> omega)) ?_
  intro A w hF hH
  refine wpList_nil ?_
  refine wp_seq ?_
  refine wp_region_lit ?_
  have hH := hH.swap
  refine evM [⟨b3, [.int .i64 E, .int .i64 P], 28⟩] [0, 0] tab hF hH rfl (by first | exact trivial | (simp only [All, inK_i64, inK_u64, inK_u32, inK_u8, inK_i32, max_i64, max_u64, IntKind.bits, Int.reduceToNat, Int.reduceAdd, Nat.reducePow, Int.reducePow, and_true, true_and, and_self] <;> omega)) ?_
  intro A w hF hH
  refine list_act hF rfl ?_
  refine op_call hF rfl rfl rfl rfl rfl rfl isF31 (number_calls h0 hi hi2 hH) ?_
  rintro e w ⟨rfl, hH⟩
  refine ⟨_, rfl, fun A hF => ?_⟩
  refine ev0 [0] tab hF hH rfl (by first | exact trivial | (simp only [All, inK_i64, inK_u64, inK_u32, inK_u8, inK_i32, max_i64, max_u64, IntKind.bits, Int.reduceToNat, Int.reduceAdd, Nat.reducePow, Int.reducePow, and_true, true_and, and_self] <;> omega)) ?_
  intro A w hF hH
  refine wpList_nil ?_
  refine wp_seq ?_
  refine wp_seq ?_
  refine wp_region_lit ?_
  refine ev0 [0, 0, 0, 0, 2, 0] tab hF hH rfl (by first | exact trivial | (simp only [All, inK_i64, inK_u64, inK_u32, inK_u8, inK_i32, max_i64, max_u64, IntKind.bits, Int.reduceToNat, Int.reduceAdd, Nat.reducePow, Int.reducePow, and_true, true_and, and_self] <;> omega)) ?_
  intro A w hF hH
  refine wpList_nil ?_
  refine cond_f hF rfl rfl ?_
  refine wp_skip ?_
  refine wp_seq ?_
  refine wp_region_lit ?_
  refine evM [⟨b3, [.int .i64 E, .int .i64 P], 28⟩] [0, 0] tab hF hH rfl (by first | exact trivial | (simp only [All, inK_i64, inK_u64, inK_u32, inK_u8, inK_i32, max_i64, max_u64, IntKind.bits, Int.reduceToNat, Int.reduceAdd, Nat.reducePow, Int.reducePow, and_true, true_and, and_self] <;> omega)) ?_
  intro A w hF hH
  refine list_act hF rfl ?_
  refine op_call hF rfl rfl rfl rfl rfl rfl isF32 (group_calls h0 hi hi2 hH) ?_
  rintro e w ⟨g, rfl, ⟨hg0, hg1⟩, hH⟩
  refine ⟨_, rfl, fun A hF => ?_⟩
  refine ev0 [0] tab hF hH rfl (by first | exact trivial | (simp only [All, inK_i64, inK_u64, inK_u32, inK_u8, inK_i32, max_i64, max_u64, IntKind.bits, Int.reduceToNat, Int.reduceAdd, Nat.reducePow, Int.reducePow, and_true, true_and, and_self] <;> omega)) ?_
  intro A w hF hH
  refine wpList_nil ?_
  refine wp_seq ?_
  refine wp_seq ?_
  refine wp_region_lit ?_
  refine evM [⟨b3, [.int .i64 E, .int .i64 P], 28⟩] [0, 2, 0, 0, 0] tab hF hH rfl (by first | exact trivial | (simp only [All, inK_i64, inK_u64, inK_u32, inK_u8, inK_i32, max_i64, max_u64, IntKind.bits, Int.reduceToNat, Int.reduceAdd, Nat.reducePow, Int.reducePow, and_true, true_and, and_self] <;> omega)) ?_
  intro A w hF hH
  refine list_act hF rfl ?_
  refine op_call hF rfl rfl rfl rfl rfl rfl isF33 (deadline_calls h0 hi hi2 hH) ?_
  rintro e w ⟨rfl, hH⟩
  refine ⟨_, rfl, fun A hF => ?_⟩
  refine ev0 [0, 0, 2, 0, 0, 0, 0, 0, 2, 0] tab hF hH rfl (by first | exact trivial | (simp only [All, inK_i64, inK_u64, inK_u32, inK_u8, inK_i32, max_i64, max_u64, IntKind.bits, Int.reduceToNat, Int.reduceAdd, Nat.reducePow, Int.reducePow, and_true, true_and, and_self] <;> omega)) ?_
  intro A w hF hH
  refine wpList_nil ?_
  refine cond_f hF rfl rfl ?_
  refine wp_skip ?_
  refine wp_seq ?_
  refine dr_reads (by kernel_rfl) [] [row b3 [.int .i64 E, .int .i64 P] 28] [16] [(0, 0), (1, 1), (2, 0), (4, 0), (6, 1), (7, 0), (9, 0), (11, 1), (12, 0)] 8 tab (LFok.cons (At.own (off := 0) (vs := [.int .i64 E, .int .i64 P]) 0 rfl (fun j u h => by simpa using h)) (LFok.nil _ _)) (by kernel_rfl) rfl hF hH (by kernel_rfl) rfl (by first | exact trivial | (simp only [All, inK_i64, inK_u64, inK_u32, inK_u8, inK_i32, max_i64, max_u64, IntKind.bits, Int.reduceToNat, Int.reduceAdd, Nat.reducePow, Int.reducePow, and_true, true_and, and_self] <;> omega)) ?_
  intro A w hF hH
  refine dr_act2 (k1 := 3) (k2 := 15) (by kernel_rfl) rfl rfl hF rfl rfl ?_ ?_
  · skip
    refine op_call hF rfl rfl rfl rfl rfl rfl isF34 (release_calls h0 hi hi2 hH) ?_
    rintro e w ⟨rfl, hH⟩
    refine ⟨_, rfl, fun A hF => ?_⟩
    refine ⟨(fun _ => Keeps.of hH (K.le.refl _)), ?_⟩
    refine dr_more [] [row b3 [.int .i64 E, .int .i64 P] 28] [(5, 0)] 6 (K.le.refl _) tab (LFok.nil _ _) (by kernel_rfl) rfl hF hH (by kernel_rfl) rfl (by first | exact trivial | (simp only [All, inK_i64, inK_u64, inK_u32, inK_u8, inK_i32, max_i64, max_u64, IntKind.bits, Int.reduceToNat, Int.reduceAdd, Nat.reducePow, Int.reducePow, and_true, true_and, and_self] <;> omega)) ?_
    intro A hF
    refine dr_act2 (k1 := 8) (k2 := 15) (by kernel_rfl) rfl rfl hF rfl rfl ?_ ?_
    · skip
      refine op_call hF rfl rfl rfl rfl rfl rfl isF33 (deadline_calls h0 hi hi2 hH) ?_
      rintro e w ⟨rfl, hH⟩
      refine ⟨_, rfl, fun A hF => ?_⟩
      refine ⟨(fun _ => Keeps.of hH (K.le.refl _)), ?_⟩
      refine dr_more [] [row b3 [.int .i64 E, .int .i64 P] 28] [(10, 0)] 4 (K.le.refl _) tab (LFok.nil _ _) (by kernel_rfl) rfl hF hH (by kernel_rfl) rfl (by first | exact trivial | (simp only [All, inK_i64, inK_u64, inK_u32, inK_u8, inK_i32, max_i64, max_u64, IntKind.bits, Int.reduceToNat, Int.reduceAdd, Nat.reducePow, Int.reducePow, and_true, true_and, and_self] <;> omega)) ?_
      intro A hF
      refine dr_act2 (k1 := 13) (k2 := 15) (by kernel_rfl) rfl rfl hF rfl rfl ?_ ?_
      · skip
        refine op_call hF rfl rfl rfl rfl rfl rfl isF35 (bit_calls h0 hi hi2 hH) ?_
        rintro e w ⟨bt, rfl, hH⟩
        refine ⟨_, rfl, fun A hF => ?_⟩
        refine ⟨(fun _ => Keeps.of hH (K.le.refl _)), ?_⟩
        refine dr_more [] [row b3 [.int .i64 E, .int .i64 P] 28] [(14, 0)] 2 (K.le.refl _) tab (LFok.nil _ _) (by kernel_rfl) rfl hF hH (by kernel_rfl) rfl (by first | exact trivial | (simp only [All, inK_i64, inK_u64, inK_u32, inK_u8, inK_i32, max_i64, max_u64, IntKind.bits, Int.reduceToNat, Int.reduceAdd, Nat.reducePow, Int.reducePow, and_true, true_and, and_self] <;> omega)) ?_
        intro A hF
        refine dr_act (k := 15) (by kernel_rfl) rfl hF rfl ?_
        refine op_alloc hF tab rfl rfl rfl rfl rfl hH ?_
        intro b10 A w hF hH
        refine ⟨fun _ => Keeps.of hH.tail (K.le.refl _), ?_⟩
        have hH := hH.swap
        have hH := hH.swap
        refine dr_act (k := 16) (by kernel_rfl) rfl hF rfl ?_
        refine op_ev (h := 0) (M := [⟨b10, [.int .i64 0, .int .i64 0, .int .i64 0, .int .i64 0, .int .i64 0], 35⟩]) hF tab hH rfl (by first | exact trivial | (simp only [All, inK_i64, inK_u64, inK_u32, inK_u8, inK_i32, max_i64, max_u64, IntKind.bits, Int.reduceToNat, Int.reduceAdd, Nat.reducePow, Int.reducePow, and_true, true_and, and_self] <;> omega)) rfl ?_
        intro A w hF hH
        refine ⟨fun h => absurd h (by decide), ?_⟩
        refine dr_done (by kernel_rfl) ?_ _
        refine wp_seq ?_
        refine wp_seq ?_
        refine wp_region_lit ?_
        by_cases hg : 0 < g
        · refine ev0 [0, 1] tab hF hH rfl (by first | exact trivial | (simp only [All, inK_i64, inK_u64, inK_u32, inK_u8, inK_i32, max_i64, max_u64, IntKind.bits, Int.reduceToNat, Int.reduceAdd, Nat.reducePow, Int.reducePow, and_true, true_and, and_self] <;> omega)) ?_
          intro A w hF hH
          refine wpList_nil ?_
          refine cond_t hF rfl rfl ?_
          refine wp_region_lit ?_
          refine evM [⟨b10, [.int .i64 i, .int .i64 ((i - 1) * P / E + 0), .int .i64 (upF (i * P) E + 0), .int .i64 bt, .int .i64 0], 35⟩] [0, 0, 0, 0, 0] tab hF hH rfl (by first | exact trivial | (simp only [All, inK_i64, inK_u64, inK_u32, inK_u8, inK_i32, max_i64, max_u64, IntKind.bits, Int.reduceToNat, Int.reduceAdd, Nat.reducePow, Int.reducePow, and_true, true_and, and_self] <;> omega)) ?_
          intro A w hF hH
          refine wpList_nil ?_
          refine wp_seq ?_
          refine wp_region_lit ?_
          have hH := (hH.focus 2 rfl).focus 1 rfl
          refine evM [⟨b10, [.int .i64 i, .int .i64 ((i - 1) * P / E + 0), .int .i64 (upF (i * P) E + 0), .int .i64 bt, .int .i64 (g + 0)], 35⟩, ⟨b6, [.int .i64 0, .int .i64 0, .int .i64 0, .int .i64 0, .int .i64 0], 35⟩] [0, 1, 0] tab hF hH rfl (by first | exact trivial | (simp only [All, inK_i64, inK_u64, inK_u32, inK_u8, inK_i32, max_i64, max_u64, IntKind.bits, Int.reduceToNat, Int.reduceAdd, Nat.reducePow, Int.reducePow, and_true, true_and, and_self] <;> omega)) ?_
          intro A w hF hH
          refine wpList_nil ?_
          refine wp_ret ?_
          repeat (first | refine then_ret ?_ | refine blk_ret ?_ | refine ng_ret ?_)
          refine ret (M := [⟨b10, [.int .i64 i, .int .i64 ((i - 1) * P / E + 0), .int .i64 (upF (i * P) E + 0), .int .i64 bt, .int .i64 (g + 0)], 35⟩, ⟨b6, [.int .i64 i, .int .i64 ((i - 1) * P / E + 0), .int .i64 (upF (i * P) E + 0), .int .i64 bt, .int .i64 (g + 0)], 35⟩]) (hs := [1]) tab hF hH rfl (by first | exact trivial | (simp only [All, inK_i64, inK_u64, inK_u32, inK_u8, inK_i32, max_i64, max_u64, IntKind.bits, Int.reduceToNat, Int.reduceAdd, Nat.reducePow, Int.reducePow, and_true, true_and, and_self] <;> omega)) ?_
          exact ⟨bt, g, by simp only [Int.add_zero]; rfl, hH.tail.tail.tail⟩
        · skip
          refine ev0 [0, 2] tab hF hH rfl (by first | exact trivial | (simp only [All, inK_i64, inK_u64, inK_u32, inK_u8, inK_i32, max_i64, max_u64, IntKind.bits, Int.reduceToNat, Int.reduceAdd, Nat.reducePow, Int.reducePow, and_true, true_and, and_self] <;> omega)) ?_
          intro A w hF hH
          refine wpList_nil ?_
          refine cond_f hF rfl rfl ?_
          refine wp_skip ?_
          refine wp_seq ?_
          refine wp_region_lit ?_
          have hH := (hH.focus 2 rfl).focus 1 rfl
          refine evM [⟨b10, [.int .i64 i, .int .i64 ((i - 1) * P / E + 0), .int .i64 (upF (i * P) E + 0), .int .i64 bt, .int .i64 0], 35⟩, ⟨b6, [.int .i64 0, .int .i64 0, .int .i64 0, .int .i64 0, .int .i64 0], 35⟩] [0, 1, 0] tab hF hH rfl (by first | exact trivial | (simp only [All, inK_i64, inK_u64, inK_u32, inK_u8, inK_i32, max_i64, max_u64, IntKind.bits, Int.reduceToNat, Int.reduceAdd, Nat.reducePow, Int.reducePow, and_true, true_and, and_self] <;> omega)) ?_
          intro A w hF hH
          refine wpList_nil ?_
          refine wp_ret ?_
          repeat (first | refine then_ret ?_ | refine blk_ret ?_ | refine ng_ret ?_)
          refine ret (M := [⟨b10, [.int .i64 i, .int .i64 ((i - 1) * P / E + 0), .int .i64 (upF (i * P) E + 0), .int .i64 bt, .int .i64 0], 35⟩, ⟨b6, [.int .i64 i, .int .i64 ((i - 1) * P / E + 0), .int .i64 (upF (i * P) E + 0), .int .i64 bt, .int .i64 0], 35⟩]) (hs := [1]) tab hF hH rfl (by first | exact trivial | (simp only [All, inK_i64, inK_u64, inK_u32, inK_u8, inK_i32, max_i64, max_u64, IntKind.bits, Int.reduceToNat, Int.reduceAdd, Nat.reducePow, Int.reducePow, and_true, true_and, and_self] <;> omega)) ?_
          exact ⟨bt, 0, by simp only [Int.add_zero]; rfl, hH.tail.tail.tail⟩
      · skip
        refine op_alloc hF tab rfl rfl rfl rfl rfl hH ?_
        intro b10 A w hF hH
        refine ⟨fun _ => Keeps.of hH.tail (K.le.refl _), ?_⟩
        have hH := hH.swap
        refine dr_act (k := 13) (by kernel_rfl) rfl hF rfl ?_
        refine op_call hF rfl rfl rfl rfl rfl rfl isF35 (bit_calls h0 hi hi2 hH) ?_
        rintro e w ⟨bt, rfl, hH⟩
        refine ⟨_, rfl, fun A hF => ?_⟩
        refine ⟨(fun _ => Keeps.of hH (K.le.refl _)), ?_⟩
        refine dr_more [] [row b3 [.int .i64 E, .int .i64 P] 28] [(14, 0)] 1 (K.le.refl _) tab (LFok.nil _ _) (by kernel_rfl) rfl hF hH (by kernel_rfl) rfl (by first | exact trivial | (simp only [All, inK_i64, inK_u64, inK_u32, inK_u8, inK_i32, max_i64, max_u64, IntKind.bits, Int.reduceToNat, Int.reduceAdd, Nat.reducePow, Int.reducePow, and_true, true_and, and_self] <;> omega)) ?_
        intro A hF
        have hH := hH.swap
        refine dr_act (k := 16) (by kernel_rfl) rfl hF rfl ?_
        refine op_ev (h := 0) (M := [⟨b10, [.int .i64 0, .int .i64 0, .int .i64 0, .int .i64 0, .int .i64 0], 35⟩]) hF tab hH rfl (by first | exact trivial | (simp only [All, inK_i64, inK_u64, inK_u32, inK_u8, inK_i32, max_i64, max_u64, IntKind.bits, Int.reduceToNat, Int.reduceAdd, Nat.reducePow, Int.reducePow, and_true, true_and, and_self] <;> omega)) rfl ?_
        intro A w hF hH
        refine ⟨fun h => absurd h (by decide), ?_⟩
        refine dr_done (by kernel_rfl) ?_ _
        refine wp_seq ?_
        refine wp_seq ?_
        refine wp_region_lit ?_
        by_cases hg : 0 < g
        · refine ev0 [0, 1] tab hF hH rfl (by first | exact trivial | (simp only [All, inK_i64, inK_u64, inK_u32, inK_u8, inK_i32, max_i64, max_u64, IntKind.bits, Int.reduceToNat, Int.reduceAdd, Nat.reducePow, Int.reducePow, and_true, true_and, and_self] <;> omega)) ?_
          intro A w hF hH
          refine wpList_nil ?_
          refine cond_t hF rfl rfl ?_
          refine wp_region_lit ?_
          refine evM [⟨b10, [.int .i64 i, .int .i64 ((i - 1) * P / E + 0), .int .i64 (upF (i * P) E + 0), .int .i64 bt, .int .i64 0], 35⟩] [0, 0, 0, 0, 0] tab hF hH rfl (by first | exact trivial | (simp only [All, inK_i64, inK_u64, inK_u32, inK_u8, inK_i32, max_i64, max_u64, IntKind.bits, Int.reduceToNat, Int.reduceAdd, Nat.reducePow, Int.reducePow, and_true, true_and, and_self] <;> omega)) ?_
          intro A w hF hH
          refine wpList_nil ?_
          refine wp_seq ?_
          refine wp_region_lit ?_
          have hH := (hH.focus 2 rfl).focus 1 rfl
          refine evM [⟨b10, [.int .i64 i, .int .i64 ((i - 1) * P / E + 0), .int .i64 (upF (i * P) E + 0), .int .i64 bt, .int .i64 (g + 0)], 35⟩, ⟨b6, [.int .i64 0, .int .i64 0, .int .i64 0, .int .i64 0, .int .i64 0], 35⟩] [0, 1, 0] tab hF hH rfl (by first | exact trivial | (simp only [All, inK_i64, inK_u64, inK_u32, inK_u8, inK_i32, max_i64, max_u64, IntKind.bits, Int.reduceToNat, Int.reduceAdd, Nat.reducePow, Int.reducePow, and_true, true_and, and_self] <;> omega)) ?_
          intro A w hF hH
          refine wpList_nil ?_
          refine wp_ret ?_
          repeat (first | refine then_ret ?_ | refine blk_ret ?_ | refine ng_ret ?_)
          refine ret (M := [⟨b10, [.int .i64 i, .int .i64 ((i - 1) * P / E + 0), .int .i64 (upF (i * P) E + 0), .int .i64 bt, .int .i64 (g + 0)], 35⟩, ⟨b6, [.int .i64 i, .int .i64 ((i - 1) * P / E + 0), .int .i64 (upF (i * P) E + 0), .int .i64 bt, .int .i64 (g + 0)], 35⟩]) (hs := [1]) tab hF hH rfl (by first | exact trivial | (simp only [All, inK_i64, inK_u64, inK_u32, inK_u8, inK_i32, max_i64, max_u64, IntKind.bits, Int.reduceToNat, Int.reduceAdd, Nat.reducePow, Int.reducePow, and_true, true_and, and_self] <;> omega)) ?_
          exact ⟨bt, g, by simp only [Int.add_zero]; rfl, hH.tail.tail.tail⟩
        · skip
          refine ev0 [0, 2] tab hF hH rfl (by first | exact trivial | (simp only [All, inK_i64, inK_u64, inK_u32, inK_u8, inK_i32, max_i64, max_u64, IntKind.bits, Int.reduceToNat, Int.reduceAdd, Nat.reducePow, Int.reducePow, and_true, true_and, and_self] <;> omega)) ?_
          intro A w hF hH
          refine wpList_nil ?_
          refine cond_f hF rfl rfl ?_
          refine wp_skip ?_
          refine wp_seq ?_
          refine wp_region_lit ?_
          have hH := (hH.focus 2 rfl).focus 1 rfl
          refine evM [⟨b10, [.int .i64 i, .int .i64 ((i - 1) * P / E + 0), .int .i64 (upF (i * P) E + 0), .int .i64 bt, .int .i64 0], 35⟩, ⟨b6, [.int .i64 0, .int .i64 0, .int .i64 0, .int .i64 0, .int .i64 0], 35⟩] [0, 1, 0] tab hF hH rfl (by first | exact trivial | (simp only [All, inK_i64, inK_u64, inK_u32, inK_u8, inK_i32, max_i64, max_u64, IntKind.bits, Int.reduceToNat, Int.reduceAdd, Nat.reducePow, Int.reducePow, and_true, true_and, and_self] <;> omega)) ?_
          intro A w hF hH
          refine wpList_nil ?_
          refine wp_ret ?_
          repeat (first | refine then_ret ?_ | refine blk_ret ?_ | refine ng_ret ?_)
          refine ret (M := [⟨b10, [.int .i64 i, .int .i64 ((i - 1) * P / E + 0), .int .i64 (upF (i * P) E + 0), .int .i64 bt, .int .i64 0], 35⟩, ⟨b6, [.int .i64 i, .int .i64 ((i - 1) * P / E + 0), .int .i64 (upF (i * P) E + 0), .int .i64 bt, .int .i64 0], 35⟩]) (hs := [1]) tab hF hH rfl (by first | exact trivial | (simp only [All, inK_i64, inK_u64, inK_u32, inK_u8, inK_i32, max_i64, max_u64, IntKind.bits, Int.reduceToNat, Int.reduceAdd, Nat.reducePow, Int.reducePow, and_true, true_and, and_self] <;> omega)) ?_
          exact ⟨bt, 0, by simp only [Int.add_zero]; rfl, hH.tail.tail.tail⟩
    · skip
      refine op_alloc hF tab rfl rfl rfl rfl rfl hH ?_
      intro b10 A w hF hH
      refine ⟨fun _ => Keeps.of hH.tail (K.le.refl _), ?_⟩
      have hH := hH.swap
      refine dr_act (k := 8) (by kernel_rfl) rfl hF rfl ?_
      refine op_call hF rfl rfl rfl rfl rfl rfl isF33 (deadline_calls h0 hi hi2 hH) ?_
      rintro e w ⟨rfl, hH⟩
      refine ⟨_, rfl, fun A hF => ?_⟩
      refine ⟨(fun _ => Keeps.of hH (K.le.refl _)), ?_⟩
      refine dr_more [] [row b3 [.int .i64 E, .int .i64 P] 28] [(10, 0)] 3 (K.le.refl _) tab (LFok.nil _ _) (by kernel_rfl) rfl hF hH (by kernel_rfl) rfl (by first | exact trivial | (simp only [All, inK_i64, inK_u64, inK_u32, inK_u8, inK_i32, max_i64, max_u64, IntKind.bits, Int.reduceToNat, Int.reduceAdd, Nat.reducePow, Int.reducePow, and_true, true_and, and_self] <;> omega)) ?_
      intro A hF
      refine dr_act (k := 13) (by kernel_rfl) rfl hF rfl ?_
      refine op_call hF rfl rfl rfl rfl rfl rfl isF35 (bit_calls h0 hi hi2 hH) ?_
      rintro e w ⟨bt, rfl, hH⟩
      refine ⟨_, rfl, fun A hF => ?_⟩
      refine ⟨(fun _ => Keeps.of hH (K.le.refl _)), ?_⟩
      refine dr_more [] [row b3 [.int .i64 E, .int .i64 P] 28] [(14, 0)] 1 (K.le.refl _) tab (LFok.nil _ _) (by kernel_rfl) rfl hF hH (by kernel_rfl) rfl (by first | exact trivial | (simp only [All, inK_i64, inK_u64, inK_u32, inK_u8, inK_i32, max_i64, max_u64, IntKind.bits, Int.reduceToNat, Int.reduceAdd, Nat.reducePow, Int.reducePow, and_true, true_and, and_self] <;> omega)) ?_
      intro A hF
      have hH := hH.swap
      refine dr_act (k := 16) (by kernel_rfl) rfl hF rfl ?_
      refine op_ev (h := 0) (M := [⟨b10, [.int .i64 0, .int .i64 0, .int .i64 0, .int .i64 0, .int .i64 0], 35⟩]) hF tab hH rfl (by first | exact trivial | (simp only [All, inK_i64, inK_u64, inK_u32, inK_u8, inK_i32, max_i64, max_u64, IntKind.bits, Int.reduceToNat, Int.reduceAdd, Nat.reducePow, Int.reducePow, and_true, true_and, and_self] <;> omega)) rfl ?_
      intro A w hF hH
      refine ⟨fun h => absurd h (by decide), ?_⟩
      refine dr_done (by kernel_rfl) ?_ _
      refine wp_seq ?_
      refine wp_seq ?_
      refine wp_region_lit ?_
      by_cases hg : 0 < g
      · refine ev0 [0, 1] tab hF hH rfl (by first | exact trivial | (simp only [All, inK_i64, inK_u64, inK_u32, inK_u8, inK_i32, max_i64, max_u64, IntKind.bits, Int.reduceToNat, Int.reduceAdd, Nat.reducePow, Int.reducePow, and_true, true_and, and_self] <;> omega)) ?_
        intro A w hF hH
        refine wpList_nil ?_
        refine cond_t hF rfl rfl ?_
        refine wp_region_lit ?_
        refine evM [⟨b10, [.int .i64 i, .int .i64 ((i - 1) * P / E + 0), .int .i64 (upF (i * P) E + 0), .int .i64 bt, .int .i64 0], 35⟩] [0, 0, 0, 0, 0] tab hF hH rfl (by first | exact trivial | (simp only [All, inK_i64, inK_u64, inK_u32, inK_u8, inK_i32, max_i64, max_u64, IntKind.bits, Int.reduceToNat, Int.reduceAdd, Nat.reducePow, Int.reducePow, and_true, true_and, and_self] <;> omega)) ?_
        intro A w hF hH
        refine wpList_nil ?_
        refine wp_seq ?_
        refine wp_region_lit ?_
        have hH := (hH.focus 2 rfl).focus 1 rfl
        refine evM [⟨b10, [.int .i64 i, .int .i64 ((i - 1) * P / E + 0), .int .i64 (upF (i * P) E + 0), .int .i64 bt, .int .i64 (g + 0)], 35⟩, ⟨b6, [.int .i64 0, .int .i64 0, .int .i64 0, .int .i64 0, .int .i64 0], 35⟩] [0, 1, 0] tab hF hH rfl (by first | exact trivial | (simp only [All, inK_i64, inK_u64, inK_u32, inK_u8, inK_i32, max_i64, max_u64, IntKind.bits, Int.reduceToNat, Int.reduceAdd, Nat.reducePow, Int.reducePow, and_true, true_and, and_self] <;> omega)) ?_
        intro A w hF hH
        refine wpList_nil ?_
        refine wp_ret ?_
        repeat (first | refine then_ret ?_ | refine blk_ret ?_ | refine ng_ret ?_)
        refine ret (M := [⟨b10, [.int .i64 i, .int .i64 ((i - 1) * P / E + 0), .int .i64 (upF (i * P) E + 0), .int .i64 bt, .int .i64 (g + 0)], 35⟩, ⟨b6, [.int .i64 i, .int .i64 ((i - 1) * P / E + 0), .int .i64 (upF (i * P) E + 0), .int .i64 bt, .int .i64 (g + 0)], 35⟩]) (hs := [1]) tab hF hH rfl (by first | exact trivial | (simp only [All, inK_i64, inK_u64, inK_u32, inK_u8, inK_i32, max_i64, max_u64, IntKind.bits, Int.reduceToNat, Int.reduceAdd, Nat.reducePow, Int.reducePow, and_true, true_and, and_self] <;> omega)) ?_
        exact ⟨bt, g, by simp only [Int.add_zero]; rfl, hH.tail.tail.tail⟩
      · skip
        refine ev0 [0, 2] tab hF hH rfl (by first | exact trivial | (simp only [All, inK_i64, inK_u64, inK_u32, inK_u8, inK_i32, max_i64, max_u64, IntKind.bits, Int.reduceToNat, Int.reduceAdd, Nat.reducePow, Int.reducePow, and_true, true_and, and_self] <;> omega)) ?_
        intro A w hF hH
        refine wpList_nil ?_
        refine cond_f hF rfl rfl ?_
        refine wp_skip ?_
        refine wp_seq ?_
        refine wp_region_lit ?_
        have hH := (hH.focus 2 rfl).focus 1 rfl
        refine evM [⟨b10, [.int .i64 i, .int .i64 ((i - 1) * P / E + 0), .int .i64 (upF (i * P) E + 0), .int .i64 bt, .int .i64 0], 35⟩, ⟨b6, [.int .i64 0, .int .i64 0, .int .i64 0, .int .i64 0, .int .i64 0], 35⟩] [0, 1, 0] tab hF hH rfl (by first | exact trivial | (simp only [All, inK_i64, inK_u64, inK_u32, inK_u8, inK_i32, max_i64, max_u64, IntKind.bits, Int.reduceToNat, Int.reduceAdd, Nat.reducePow, Int.reducePow, and_true, true_and, and_self] <;> omega)) ?_
        intro A w hF hH
        refine wpList_nil ?_
        refine wp_ret ?_
        repeat (first | refine then_ret ?_ | refine blk_ret ?_ | refine ng_ret ?_)
        refine ret (M := [⟨b10, [.int .i64 i, .int .i64 ((i - 1) * P / E + 0), .int .i64 (upF (i * P) E + 0), .int .i64 bt, .int .i64 0], 35⟩, ⟨b6, [.int .i64 i, .int .i64 ((i - 1) * P / E + 0), .int .i64 (upF (i * P) E + 0), .int .i64 bt, .int .i64 0], 35⟩]) (hs := [1]) tab hF hH rfl (by first | exact trivial | (simp only [All, inK_i64, inK_u64, inK_u32, inK_u8, inK_i32, max_i64, max_u64, IntKind.bits, Int.reduceToNat, Int.reduceAdd, Nat.reducePow, Int.reducePow, and_true, true_and, and_self] <;> omega)) ?_
        exact ⟨bt, 0, by simp only [Int.add_zero]; rfl, hH.tail.tail.tail⟩
  · skip
    refine op_alloc hF tab rfl rfl rfl rfl rfl hH ?_
    intro b10 A w hF hH
    refine ⟨fun _ => Keeps.of hH.tail (K.le.refl _), ?_⟩
    have hH := hH.swap
    refine dr_act (k := 3) (by kernel_rfl) rfl hF rfl ?_
    refine op_call hF rfl rfl rfl rfl rfl rfl isF34 (release_calls h0 hi hi2 hH) ?_
    rintro e w ⟨rfl, hH⟩
    refine ⟨_, rfl, fun A hF => ?_⟩
    refine ⟨(fun _ => Keeps.of hH (K.le.refl _)), ?_⟩
    refine dr_more [] [row b3 [.int .i64 E, .int .i64 P] 28] [(5, 0)] 5 (K.le.refl _) tab (LFok.nil _ _) (by kernel_rfl) rfl hF hH (by kernel_rfl) rfl (by first | exact trivial | (simp only [All, inK_i64, inK_u64, inK_u32, inK_u8, inK_i32, max_i64, max_u64, IntKind.bits, Int.reduceToNat, Int.reduceAdd, Nat.reducePow, Int.reducePow, and_true, true_and, and_self] <;> omega)) ?_
    intro A hF
    refine dr_act (k := 8) (by kernel_rfl) rfl hF rfl ?_
    refine op_call hF rfl rfl rfl rfl rfl rfl isF33 (deadline_calls h0 hi hi2 hH) ?_
    rintro e w ⟨rfl, hH⟩
    refine ⟨_, rfl, fun A hF => ?_⟩
    refine ⟨(fun _ => Keeps.of hH (K.le.refl _)), ?_⟩
    refine dr_more [] [row b3 [.int .i64 E, .int .i64 P] 28] [(10, 0)] 3 (K.le.refl _) tab (LFok.nil _ _) (by kernel_rfl) rfl hF hH (by kernel_rfl) rfl (by first | exact trivial | (simp only [All, inK_i64, inK_u64, inK_u32, inK_u8, inK_i32, max_i64, max_u64, IntKind.bits, Int.reduceToNat, Int.reduceAdd, Nat.reducePow, Int.reducePow, and_true, true_and, and_self] <;> omega)) ?_
    intro A hF
    refine dr_act (k := 13) (by kernel_rfl) rfl hF rfl ?_
    refine op_call hF rfl rfl rfl rfl rfl rfl isF35 (bit_calls h0 hi hi2 hH) ?_
    rintro e w ⟨bt, rfl, hH⟩
    refine ⟨_, rfl, fun A hF => ?_⟩
    refine ⟨(fun _ => Keeps.of hH (K.le.refl _)), ?_⟩
    refine dr_more [] [row b3 [.int .i64 E, .int .i64 P] 28] [(14, 0)] 1 (K.le.refl _) tab (LFok.nil _ _) (by kernel_rfl) rfl hF hH (by kernel_rfl) rfl (by first | exact trivial | (simp only [All, inK_i64, inK_u64, inK_u32, inK_u8, inK_i32, max_i64, max_u64, IntKind.bits, Int.reduceToNat, Int.reduceAdd, Nat.reducePow, Int.reducePow, and_true, true_and, and_self] <;> omega)) ?_
    intro A hF
    have hH := hH.swap
    refine dr_act (k := 16) (by kernel_rfl) rfl hF rfl ?_
    refine op_ev (h := 0) (M := [⟨b10, [.int .i64 0, .int .i64 0, .int .i64 0, .int .i64 0, .int .i64 0], 35⟩]) hF tab hH rfl (by first | exact trivial | (simp only [All, inK_i64, inK_u64, inK_u32, inK_u8, inK_i32, max_i64, max_u64, IntKind.bits, Int.reduceToNat, Int.reduceAdd, Nat.reducePow, Int.reducePow, and_true, true_and, and_self] <;> omega)) rfl ?_
    intro A w hF hH
    refine ⟨fun h => absurd h (by decide), ?_⟩
    refine dr_done (by kernel_rfl) ?_ _
    refine wp_seq ?_
    refine wp_seq ?_
    refine wp_region_lit ?_
    by_cases hg : 0 < g
    · refine ev0 [0, 1] tab hF hH rfl (by first | exact trivial | (simp only [All, inK_i64, inK_u64, inK_u32, inK_u8, inK_i32, max_i64, max_u64, IntKind.bits, Int.reduceToNat, Int.reduceAdd, Nat.reducePow, Int.reducePow, and_true, true_and, and_self] <;> omega)) ?_
      intro A w hF hH
      refine wpList_nil ?_
      refine cond_t hF rfl rfl ?_
      refine wp_region_lit ?_
      refine evM [⟨b10, [.int .i64 i, .int .i64 ((i - 1) * P / E + 0), .int .i64 (upF (i * P) E + 0), .int .i64 bt, .int .i64 0], 35⟩] [0, 0, 0, 0, 0] tab hF hH rfl (by first | exact trivial | (simp only [All, inK_i64, inK_u64, inK_u32, inK_u8, inK_i32, max_i64, max_u64, IntKind.bits, Int.reduceToNat, Int.reduceAdd, Nat.reducePow, Int.reducePow, and_true, true_and, and_self] <;> omega)) ?_
      intro A w hF hH
      refine wpList_nil ?_
      refine wp_seq ?_
      refine wp_region_lit ?_
      have hH := (hH.focus 2 rfl).focus 1 rfl
      refine evM [⟨b10, [.int .i64 i, .int .i64 ((i - 1) * P / E + 0), .int .i64 (upF (i * P) E + 0), .int .i64 bt, .int .i64 (g + 0)], 35⟩, ⟨b6, [.int .i64 0, .int .i64 0, .int .i64 0, .int .i64 0, .int .i64 0], 35⟩] [0, 1, 0] tab hF hH rfl (by first | exact trivial | (simp only [All, inK_i64, inK_u64, inK_u32, inK_u8, inK_i32, max_i64, max_u64, IntKind.bits, Int.reduceToNat, Int.reduceAdd, Nat.reducePow, Int.reducePow, and_true, true_and, and_self] <;> omega)) ?_
      intro A w hF hH
      refine wpList_nil ?_
      refine wp_ret ?_
      repeat (first | refine then_ret ?_ | refine blk_ret ?_ | refine ng_ret ?_)
      refine ret (M := [⟨b10, [.int .i64 i, .int .i64 ((i - 1) * P / E + 0), .int .i64 (upF (i * P) E + 0), .int .i64 bt, .int .i64 (g + 0)], 35⟩, ⟨b6, [.int .i64 i, .int .i64 ((i - 1) * P / E + 0), .int .i64 (upF (i * P) E + 0), .int .i64 bt, .int .i64 (g + 0)], 35⟩]) (hs := [1]) tab hF hH rfl (by first | exact trivial | (simp only [All, inK_i64, inK_u64, inK_u32, inK_u8, inK_i32, max_i64, max_u64, IntKind.bits, Int.reduceToNat, Int.reduceAdd, Nat.reducePow, Int.reducePow, and_true, true_and, and_self] <;> omega)) ?_
      exact ⟨bt, g, by simp only [Int.add_zero]; rfl, hH.tail.tail.tail⟩
    · skip
      refine ev0 [0, 2] tab hF hH rfl (by first | exact trivial | (simp only [All, inK_i64, inK_u64, inK_u32, inK_u8, inK_i32, max_i64, max_u64, IntKind.bits, Int.reduceToNat, Int.reduceAdd, Nat.reducePow, Int.reducePow, and_true, true_and, and_self] <;> omega)) ?_
      intro A w hF hH
      refine wpList_nil ?_
      refine cond_f hF rfl rfl ?_
      refine wp_skip ?_
      refine wp_seq ?_
      refine wp_region_lit ?_
      have hH := (hH.focus 2 rfl).focus 1 rfl
      refine evM [⟨b10, [.int .i64 i, .int .i64 ((i - 1) * P / E + 0), .int .i64 (upF (i * P) E + 0), .int .i64 bt, .int .i64 0], 35⟩, ⟨b6, [.int .i64 0, .int .i64 0, .int .i64 0, .int .i64 0, .int .i64 0], 35⟩] [0, 1, 0] tab hF hH rfl (by first | exact trivial | (simp only [All, inK_i64, inK_u64, inK_u32, inK_u8, inK_i32, max_i64, max_u64, IntKind.bits, Int.reduceToNat, Int.reduceAdd, Nat.reducePow, Int.reducePow, and_true, true_and, and_self] <;> omega)) ?_
      intro A w hF hH
      refine wpList_nil ?_
      refine wp_ret ?_
      repeat (first | refine then_ret ?_ | refine blk_ret ?_ | refine ng_ret ?_)
      refine ret (M := [⟨b10, [.int .i64 i, .int .i64 ((i - 1) * P / E + 0), .int .i64 (upF (i * P) E + 0), .int .i64 bt, .int .i64 0], 35⟩, ⟨b6, [.int .i64 i, .int .i64 ((i - 1) * P / E + 0), .int .i64 (upF (i * P) E + 0), .int .i64 bt, .int .i64 0], 35⟩]) (hs := [1]) tab hF hH rfl (by first | exact trivial | (simp only [All, inK_i64, inK_u64, inK_u32, inK_u8, inK_i32, max_i64, max_u64, IntKind.bits, Int.reduceToNat, Int.reduceAdd, Nat.reducePow, Int.reducePow, and_true, true_and, and_self] <;> omega)) ?_
      exact ⟨bt, 0, by simp only [Int.add_zero]; rfl, hH.tail.tail.tail⟩
end Go.Proofs.Try
