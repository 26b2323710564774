/- Rows of jobs: two sorted rows merged. Written by gen_sym.py. -/
import Derived.Test.YtfapcagleghlaaaYf
set_option linter.all false
namespace Go.Proofs.Try
open Go Go.Sep

set_option maxHeartbeats 8000000 in
set_option maxRecDepth 20000 in
theorem sym_calls (N : Nat) : ∀ (κ : K) (w : World) (C : List HP) (b cap : Nat) (X D B Y : List Prt) (junk : List Value) (a m c len : Nat), D.length + B.length ≤ N → 0 < D.length → 0 < B.length → a = X.length → m = X.length + D.length → c = X.length + D.length + B.length → Srt D → Srt B →
    len = (X ++ (D ++ B) ++ Y).length → len ≤ cap → len ≤ 1000000 → Hp κ w (row b ((X ++ (D ++ B) ++ Y).flatMap jenc ++ junk) 40 :: C) →
    Calls Try.prog 81 #[.slice (some ⟨b, 0, none⟩) len cap, .int .i64 a, .int .i64 m, .int .i64 c, .func (.func 37) #[] #[]] w (SymRes κ C b X (D ++ B) Y junk) := by
  induction N with
  | zero => intro κ w C b cap X D B Y junk a m c len h h1; omega
  | succ N ih =>
  intro κ w C b cap X D B Y junk a m c len hN hD0 hB0 ha hm hc hD hB hlen hcap hl hH
  by_cases hD1 : D.length = 1
  · obtain ⟨d, rfl⟩ := List.length_eq_one_iff.1 hD1
    exact sym_first X B Y d junk ha (by simpa using hm) (by simpa using hc) hB hlen hcap hl hH
  by_cases hB1 : B.length = 1
  · obtain ⟨e, rfl⟩ := List.length_eq_one_iff.1 hB1
    exact sym_last X D Y e junk ha hm (by simpa using hc) hD hD1 hlen hcap hl hH
  have hll : len = X.length + D.length + B.length + Y.length := by rw [hlen]; simp; omega
  obtain ⟨h, hh⟩ : ∃ h, h = (D.length + B.length) / 2 := ⟨_, rfl⟩
  obtain ⟨lo, hlo⟩ : ∃ lo, lo = h - B.length := ⟨_, rfl⟩
  obtain ⟨hi, hhi⟩ : ∃ hi, hi = min h D.length := ⟨_, rfl⟩
  have hmid : ((a : Int) + c) / 2 = a + h := by omega
  refine enter (args := [.slice (some ⟨b, 0, none⟩) len cap, .int .i64 a, .int .i64 m, .int .i64 c, .func (.func 37) #[] #[]]) Try.func81 rfl rfl ?_
  intro A hF
  refine wp_seq ?_
  refine wp_seq ?_
  refine wp_region_lit ?_
  refine ev0 [0, 0, 0, 2] tab hF hH rfl (by first | exact trivial | (simp only [All, inK_i64, inK_u64, inK_u32, inK_u8, inK_i32, max_i64, max_u64, IntKind.bits, Int.reduceToNat, Int.reduceAdd, Nat.reducePow, Int.reducePow, and_true, true_and, and_self] <;> omega)) ?_
  intro A w hF hH
  refine wpList_nil ?_
  refine cond_f hF rfl rfl ?_
  refine wp_skip ?_
  refine wp_seq ?_
  refine wp_seq ?_
  refine wp_region_lit ?_
  refine ev0 [0, 0, 0, 2] tab hF hH rfl (by first | exact trivial | (simp only [All, inK_i64, inK_u64, inK_u32, inK_u8, inK_i32, max_i64, max_u64, IntKind.bits, Int.reduceToNat, Int.reduceAdd, Nat.reducePow, Int.reducePow, and_true, true_and, and_self] <;> omega)) ?_
  intro A w hF hH
  refine wpList_nil ?_
  refine cond_f hF rfl rfl ?_
  refine wp_skip ?_
  refine wp_seq ?_
  refine wp_region_lit ?_
  refine ev0 [0, 0, 0, 0, 0, 0, 0] tab hF hH rfl (by first | exact trivial | (simp only [All, inK_i64, inK_u64, inK_u32, inK_u8, inK_i32, max_i64, max_u64, IntKind.bits, Int.reduceToNat, Int.reduceAdd, Nat.reducePow, Int.reducePow, and_true, true_and, and_self] <;> omega)) ?_
  intro A w hF hH
  simp only [Int.reduceToNat, Int.reducePow, hmid] at hF
  refine wpList_nil ?_
  refine wp_seq ?_
  refine wp_region_lit ?_
  refine ev0 [0, 0, 0, 0] tab hF hH rfl (by first | exact trivial | (simp only [All, inK_i64, inK_u64, inK_u32, inK_u8, inK_i32, max_i64, max_u64, IntKind.bits, Int.reduceToNat, Int.reduceAdd, Nat.reducePow, Int.reducePow, and_true, true_and, and_self] <;> omega)) ?_
  intro A w hF hH
  refine wpList_nil ?_
  refine wp_seq ?_
  refine wp_region_lit ?_
  refine ev0 [0, 0] tab hF hH rfl (by first | exact trivial | (simp only [All, inK_i64, inK_u64, inK_u32, inK_u8, inK_i32, max_i64, max_u64, IntKind.bits, Int.reduceToNat, Int.reduceAdd, Nat.reducePow, Int.reducePow, and_true, true_and, and_self] <;> omega)) ?_
  intro A w hF hH
  refine wpList_nil ?_
  refine wp_seq ?_
  refine wp_seq ?_
  refine wp_region_lit ?_
  by_cases hLh : h < D.length
  · refine ev0 [0, 0, 1] tab hF hH rfl (by first | exact trivial | (simp only [All, inK_i64, inK_u64, inK_u32, inK_u8, inK_i32, max_i64, max_u64, IntKind.bits, Int.reduceToNat, Int.reduceAdd, Nat.reducePow, Int.reducePow, and_true, true_and, and_self] <;> omega)) ?_
    intro A w hF hH
    refine wpList_nil ?_
    refine cond_t hF rfl rfl ?_
    refine wp_seq ?_
    refine wp_region_lit ?_
    refine ev0 [0, 0, 0, 0] tab hF hH rfl (by first | exact trivial | (simp only [All, inK_i64, inK_u64, inK_u32, inK_u8, inK_i32, max_i64, max_u64, IntKind.bits, Int.reduceToNat, Int.reduceAdd, Nat.reducePow, Int.reducePow, and_true, true_and, and_self] <;> omega)) ?_
    intro A w hF hH
    refine wpList_nil ?_
    refine wp_region_lit ?_
    refine ev0 [0, 0] tab hF hH rfl (by first | exact trivial | (simp only [All, inK_i64, inK_u64, inK_u32, inK_u8, inK_i32, max_i64, max_u64, IntKind.bits, Int.reduceToNat, Int.reduceAdd, Nat.reducePow, Int.reducePow, and_true, true_and, and_self] <;> omega)) ?_
    intro A w hF hH
    refine wpList_nil ?_
    refine wp_seq ?_
    refine wp_region_lit ?_
    refine ev0 [0, 0, 0] tab hF hH rfl (by first | exact trivial | (simp only [All, inK_i64, inK_u64, inK_u32, inK_u8, inK_i32, max_i64, max_u64, IntKind.bits, Int.reduceToNat, Int.reduceAdd, Nat.reducePow, Int.reducePow, and_true, true_and, and_self] <;> omega)) ?_
    intro A w hF hH
    refine wpList_nil ?_
    refine wp_seq ?_
    refine wp_block ?_
    have w1 : (a : Int) + h + m - c = a + lo := by omega
    have w2 : (a : Int) + h = a + hi := by omega
    refine loop_j (fun (p : Nat × Nat) A w => lo ≤ p.1 ∧ p.1 ≤ p.2 ∧ p.2 ≤ hi ∧ (∀ (h1 : p.1 - 1 < D.length) (h2 : h - p.1 < B.length), lo < p.1 → leP D[p.1 - 1] B[h - p.1]) ∧ (∀ (h1 : h - 1 - p.2 < B.length) (h2 : p.2 < D.length), p.2 < hi → leP B[h - 1 - p.2] D[p.2]) ∧ Fr 220 A [(20, .int .i64 (a + p.1)), (21, .int .i64 (a + p.2)), (22, .int .i64 (a + h + m - 1)), (19, .int .i64 (a + h + m)), (18, .int .i64 (a + h)), (0, .slice (some ⟨b, 0, none⟩) len cap), (1, .int .i64 a), (2, .int .i64 m), (3, .int .i64 c), (4, .func (.func 37) #[] #[])] ∧ Hp κ w (row b ((X ++ (D ++ B) ++ Y).flatMap jenc ++ junk) 40 :: C)) (fun p => p.2 - p.1) (lo, hi) ⟨Nat.le_refl _, by simp only; omega, Nat.le_refl _, (fun h1 h2 h3 => absurd h3 (Nat.lt_irrefl _)), (fun h1 h2 h3 => absurd h3 (Nat.lt_irrefl _)), Fr.to hF ⟨by rw [← w1]; rfl, by rw [← w2]; rfl, rfl, rfl, rfl, rfl, rfl, rfl, rfl, rfl, trivial⟩, hH⟩ ?_
    rintro ⟨u, r⟩ A w ⟨hu1, hur, hr1, g1, g2, hF, hH⟩
    simp only at hu1 hur hr1 g1 g2
    refine wp_seq ?_
    refine wp_seq ?_
    refine wp_region_lit ?_
    by_cases hlt : u < r
    · refine ev0 [0, 0, 1] tab hF hH rfl (by first | exact trivial | (simp only [All, inK_i64, inK_u64, inK_u32, inK_u8, inK_i32, max_i64, max_u64, IntKind.bits, Int.reduceToNat, Int.reduceAdd, Nat.reducePow, Int.reducePow, and_true, true_and, and_self] <;> omega)) ?_
      intro A w hF hH
      refine wpList_nil ?_
      refine cond_t hF rfl rfl ?_
      refine wp_skip ?_
      refine wp_block ?_
      refine wp_seq ?_
      refine wp_region_lit ?_
      have hx : ((a : Int) + u + (a + r)) / 2 = a + (((u + r) / 2 : Nat) : Int) := by omega
      refine ev0 [0, 0, 0, 0, 0, 0, 0] tab hF hH rfl (by first | exact trivial | (simp only [All, inK_i64, inK_u64, inK_u32, inK_u8, inK_i32, max_i64, max_u64, IntKind.bits, Int.reduceToNat, Int.reduceAdd, Nat.reducePow, Int.reducePow, and_true, true_and, and_self] <;> omega)) ?_
      intro A w hF hH
      simp only [Int.reduceToNat, Int.reducePow, hx] at hF
      refine wpList_nil ?_
      refine wp_seq ?_
      obtain ⟨x, hxe⟩ : ∃ x, x = (u + r) / 2 := ⟨_, rfl⟩
      rw [← hxe] at hF
      have hxD : x < D.length := by omega
      have hxB : h - 1 - x < B.length := by omega
      have e1 : X ++ (D ++ B) ++ Y = (X ++ D.take x) ++ D[x] :: (D.drop (x + 1) ++ (B ++ Y)) := by
        conv => lhs; rw [← List.take_append_drop x D, List.drop_eq_getElem_cons hxD]
        simp only [List.append_assoc, List.cons_append]
      have e2 : X ++ (D ++ B) ++ Y = (X ++ D ++ B.take (h - 1 - x)) ++ B[h - 1 - x] :: (B.drop (h - 1 - x + 1) ++ Y) := by
        conv => lhs; rw [← List.take_append_drop (h - 1 - x) B, List.drop_eq_getElem_cons hxB]
        simp only [List.append_assoc, List.cons_append]
      have a1 := At.own (κ := κ) (X := [row b ((X ++ (D ++ B) ++ Y).flatMap jenc ++ junk) 40]) (off := (a + x) * 5) (vs := jenc D[x]) 0 rfl (by rw [e1]; exact getM junk (by simp; omega))
      have a2 := At.own (κ := κ) (X := [row b ((X ++ (D ++ B) ++ Y).flatMap jenc ++ junk) 40]) (off := (m + (h - 1 - x)) * 5) (vs := jenc B[h - 1 - x]) 0 rfl (by rw [e2]; exact getM junk (by simp; omega))
      refine dr_reads (by kernel_rfl) [] [row b ((X ++ (D ++ B) ++ Y).flatMap jenc ++ junk) 40] [] [(0, 0), (1, 0), (2, 0), (3, 0), (4, 0), (5, 0), (6, 3), (7, 0), (8, 0), (9, 0), (10, 1)] 3 tab (LFok.cons a1 (LFok.cons a2 (LFok.nil _ _))) (by kernel_rfl) rfl hF hH (by kernel_rfl) rfl (by first | exact trivial | (simp only [All, inK_i64, inK_u64, inK_u32, inK_u8, inK_i32, max_i64, max_u64, IntKind.bits, Int.reduceToNat, Int.reduceAdd, Nat.reducePow, Int.reducePow, and_true, true_and, and_self] <;> omega)) ?_
      intro A w hF hH
      refine dr_act (k := 11) (by kernel_rfl) rfl hF rfl ?_
      refine op_call hF rfl rfl rfl rfl rfl rfl isF37 (order_calls B[h - 1 - x] D[x] hH) ?_
      rintro e w ⟨rfl, hH⟩
      refine ⟨_, rfl, fun A hF => ?_⟩
      refine ⟨fun _ => Keeps.of hH (K.le.refl _), ?_⟩
      by_cases ho : ordF B[h - 1 - x] D[x] < 0
      · refine dr_more [] [row b ((X ++ (D ++ B) ++ Y).flatMap jenc ++ junk) 40] [(12, 1), (13, 0)] 0 (K.le.refl _) tab (LFok.nil _ _) (by kernel_rfl) rfl hF hH (by kernel_rfl) rfl (by first | exact trivial | (simp only [All, inK_i64, inK_u64, inK_u32, inK_u8, inK_i32, max_i64, max_u64, IntKind.bits, Int.reduceToNat, Int.reduceAdd, Nat.reducePow, Int.reducePow, and_true, true_and, and_self] <;> omega)) ?_
        intro A hF
        refine dr_done (by kernel_rfl) ?_ _
        refine cond_f hF rfl rfl ?_
        refine wp_region_lit ?_
        refine ev0 [0, 0] tab hF hH rfl (by first | exact trivial | (simp only [All, inK_i64, inK_u64, inK_u32, inK_u8, inK_i32, max_i64, max_u64, IntKind.bits, Int.reduceToNat, Int.reduceAdd, Nat.reducePow, Int.reducePow, and_true, true_and, and_self] <;> omega)) ?_
        intro A w hF hH
        refine wpList_nil ?_
        exact ⟨(u, x), ⟨hu1, by simp only; omega, by simp only; omega, g1, (fun h1 h2 h3 => ord_lt _ _ ho), Fr.to hF ⟨rfl, rfl, rfl, rfl, rfl, rfl, rfl, rfl, rfl, rfl, trivial⟩, hH⟩, by simp only; omega⟩
      · skip
        refine dr_more [] [row b ((X ++ (D ++ B) ++ Y).flatMap jenc ++ junk) 40] [(12, 2), (13, 0)] 0 (K.le.refl _) tab (LFok.nil _ _) (by kernel_rfl) rfl hF hH (by kernel_rfl) rfl (by first | exact trivial | (simp only [All, inK_i64, inK_u64, inK_u32, inK_u8, inK_i32, max_i64, max_u64, IntKind.bits, Int.reduceToNat, Int.reduceAdd, Nat.reducePow, Int.reducePow, and_true, true_and, and_self] <;> omega)) ?_
        intro A hF
        refine dr_done (by kernel_rfl) ?_ _
        refine cond_t hF rfl rfl ?_
        refine wp_region_lit ?_
        refine ev0 [0, 0, 0] tab hF hH rfl (by first | exact trivial | (simp only [All, inK_i64, inK_u64, inK_u32, inK_u8, inK_i32, max_i64, max_u64, IntKind.bits, Int.reduceToNat, Int.reduceAdd, Nat.reducePow, Int.reducePow, and_true, true_and, and_self] <;> omega)) ?_
        intro A w hF hH
        simp only [Int.add_assoc] at hF
        refine wpList_nil ?_
        have ho2 := (ord_le _ _).1 ho
        exact ⟨(x + 1, r), ⟨by simp only; omega, by simp only; omega, hr1, (fun h1 h2 h3 => by
          simp only [show h - (x + 1) = h - 1 - x from by omega, Nat.add_sub_cancel]; exact ho2), g2, Fr.to hF ⟨rfl, rfl, by simp only [Int.add_assoc]; rfl, by simp only [Int.add_assoc]; rfl, rfl, rfl, rfl, rfl, rfl, rfl, trivial⟩, hH⟩, by simp only; omega⟩
    · skip
      have eur : u = r := by omega
      subst eur
      refine ev0 [0, 0, 2] tab hF hH rfl (by first | exact trivial | (simp only [All, inK_i64, inK_u64, inK_u32, inK_u8, inK_i32, max_i64, max_u64, IntKind.bits, Int.reduceToNat, Int.reduceAdd, Nat.reducePow, Int.reducePow, and_true, true_and, and_self] <;> omega)) ?_
      intro A w hF hH
      refine wpList_nil ?_
      refine cond_f hF rfl rfl ?_
      refine wp_exit ?_
      repeat (first | refine then_exit ?_ | refine ng_exit ?_ | refine blk_exit ?_ | refine blk_exit_ne rfl ?_)
      refine wp_seq ?_
      refine wp_region_lit ?_
      have hend : (a : Int) + h + m - (a + u) = m + ((h - u : Nat) : Int) := by omega
      have hcross := merge_cross hD hB (u := u) (v := h - u) (by omega) (by omega) (fun h1 h2 h3 => g1 h1 h2 (by omega)) (fun h1 h2 h3 => by
        have := g2 (by omega) h2 (by omega)
        simpa only [show h - 1 - u = h - u - 1 from by omega] using this)
      have hD1s : Srt (D.take u) := List.Pairwise.sublist (List.take_sublist _ _) hD
      have hD2 : Srt (D.drop u) := List.Pairwise.sublist (List.drop_sublist _ _) hD
      have hB1s : Srt (B.take (h - u)) := List.Pairwise.sublist (List.take_sublist _ _) hB
      have hB2 : Srt (B.drop (h - u)) := List.Pairwise.sublist (List.drop_sublist _ _) hB
      have hD12 : D = D.take u ++ D.drop u := (List.take_append_drop _ _).symm
      have hB12 : B = B.take (h - u) ++ B.drop (h - u) := (List.take_append_drop _ _).symm
      have hL : X ++ (D ++ B) ++ Y = X ++ (D.take u ++ (D.drop u ++ (B.take (h - u) ++ (B.drop (h - u) ++ Y)))) := by
        conv => lhs; rw [hD12, hB12]
        simp only [List.append_assoc]
      rw [hL] at hH
      refine ev0 [0, 0, 0, 0] tab hF hH rfl (by first | exact trivial | (simp only [All, inK_i64, inK_u64, inK_u32, inK_u8, inK_i32, max_i64, max_u64, IntKind.bits, Int.reduceToNat, Int.reduceAdd, Nat.reducePow, Int.reducePow, and_true, true_and, and_self] <;> omega)) ?_
      intro A w hF hH
      simp only [hend] at hF
      refine wpList_nil ?_
      refine wp_seq ?_
      refine wp_seq ?_
      refine wp_region_lit ?_
      by_cases hr1 : u < D.length
      · by_cases hr2 : 0 < h - u
        · skip
          refine ev0 [0, 0, 1, 0, 0, 0, 1, 0] tab hF hH rfl (by first | exact trivial | (simp only [All, inK_i64, inK_u64, inK_u32, inK_u8, inK_i32, max_i64, max_u64, IntKind.bits, Int.reduceToNat, Int.reduceAdd, Nat.reducePow, Int.reducePow, and_true, true_and, and_self] <;> omega)) ?_
          intro A w hF hH
          refine wpList_nil ?_
          refine cond_t hF rfl rfl ?_
          refine wp_region_lit ?_
          refine ev0 [0, 0, 0, 0, 0] tab hF hH rfl (by first | exact trivial | (simp only [All, inK_i64, inK_u64, inK_u32, inK_u8, inK_i32, max_i64, max_u64, IntKind.bits, Int.reduceToNat, Int.reduceAdd, Nat.reducePow, Int.reducePow, and_true, true_and, and_self] <;> omega)) ?_
          intro A w hF hH
          refine list_act hF rfl ?_
          refine op_call hF rfl rfl rfl rfl rfl rfl isF86 (rotate_calls (F := .func (.func 37) #[] #[]) (X ++ D.take u) (D.drop u) (B.take (h - u)) (B.drop (h - u) ++ Y) junk (a := a + u) (m := m) (c := m + (h - u)) (len := len) (by rw [List.length_append, List.length_take]; omega) (by rw [List.length_append, List.length_take, List.length_drop]; omega) (by rw [List.length_append, List.length_take, List.length_drop, List.length_take]; omega) (by rw [List.length_drop]; omega) (by rw [List.length_take]; omega) (by simp only [List.length_append, List.length_drop, List.length_take]; omega) hcap hl (by simpa only [List.append_assoc] using hH)) ?_
          rintro e w ⟨rfl, hH⟩
          refine ⟨_, rfl, fun A hF => ?_⟩
          refine wpList_nil ?_
          refine wp_seq ?_
          refine wp_seq ?_
          refine wp_region_lit ?_
          have hH : Hp κ w (row b ((X ++ (D.take u ++ (B.take (h - u) ++ (D.drop u ++ (B.drop (h - u) ++ Y))))).flatMap jenc ++ junk) 40 :: C) := by simpa only [List.append_assoc] using hH
          by_cases hu0 : 0 < u
          · by_cases hv0 : u < h
            · skip
              refine ev0 [0, 0, 1, 0, 0, 0, 1, 0] tab hF hH rfl (by first | exact trivial | (simp only [All, inK_i64, inK_u64, inK_u32, inK_u8, inK_i32, max_i64, max_u64, IntKind.bits, Int.reduceToNat, Int.reduceAdd, Nat.reducePow, Int.reducePow, and_true, true_and, and_self] <;> omega)) ?_
              intro A w hF hH
              refine wpList_nil ?_
              refine cond_t hF rfl rfl ?_
              refine wp_region_lit ?_
              refine ev0 [0, 0, 0, 0, 0] tab hF hH rfl (by first | exact trivial | (simp only [All, inK_i64, inK_u64, inK_u32, inK_u8, inK_i32, max_i64, max_u64, IntKind.bits, Int.reduceToNat, Int.reduceAdd, Nat.reducePow, Int.reducePow, and_true, true_and, and_self] <;> omega)) ?_
              intro A w hF hH
              refine list_act hF rfl ?_
              refine op_call hF rfl rfl rfl rfl rfl rfl isF81 (ih κ _ C b cap X (D.take u) (B.take (h - u)) (D.drop u ++ (B.drop (h - u) ++ Y)) junk a (a + u) (a + h) len (by rw [List.length_take, List.length_take]; omega) (by rw [List.length_take]; omega) (by rw [List.length_take]; omega) ha (by rw [List.length_take]; omega) (by rw [List.length_take, List.length_take]; omega) hD1s hB1s (by simp only [List.length_append, List.length_drop, List.length_take]; omega) hcap hl (by simpa only [List.append_assoc] using hH)) ?_
              rintro e w ⟨rfl, S1, p1, s1, hH⟩
              refine ⟨_, rfl, fun A hF => ?_⟩
              refine wpList_nil ?_
              refine wp_seq ?_
              refine wp_region_lit ?_
              have hS1l : S1.length = h := by rw [p1.length_eq, List.length_append, List.length_take, List.length_take]; omega
              by_cases hs1 : u < D.length
              · by_cases hs2 : h - u < B.length
                · skip
                  refine ev0 [0, 0, 1, 0, 0, 0, 1, 0] tab hF hH rfl (by first | exact trivial | (simp only [All, inK_i64, inK_u64, inK_u32, inK_u8, inK_i32, max_i64, max_u64, IntKind.bits, Int.reduceToNat, Int.reduceAdd, Nat.reducePow, Int.reducePow, and_true, true_and, and_self] <;> omega)) ?_
                  intro A w hF hH
                  refine wpList_nil ?_
                  refine cond_t hF rfl rfl ?_
                  refine wp_region_lit ?_
                  refine ev0 [0, 0, 0, 0, 0] tab hF hH rfl (by first | exact trivial | (simp only [All, inK_i64, inK_u64, inK_u32, inK_u8, inK_i32, max_i64, max_u64, IntKind.bits, Int.reduceToNat, Int.reduceAdd, Nat.reducePow, Int.reducePow, and_true, true_and, and_self] <;> omega)) ?_
                  intro A w hF hH
                  refine list_act hF rfl ?_
                  refine op_call hF rfl rfl rfl rfl rfl rfl isF81 (ih κ _ C b cap (X ++ S1) (D.drop u) (B.drop (h - u)) Y junk (a + h) (m + (h - u)) c len (by rw [List.length_drop, List.length_drop]; omega) (by rw [List.length_drop]; omega) (by rw [List.length_drop]; omega) (by rw [List.length_append, hS1l]; omega) (by rw [List.length_append, hS1l, List.length_drop]; omega) (by rw [List.length_append, hS1l, List.length_drop, List.length_drop]; omega) hD2 hB2 (by simp only [List.length_append, List.length_drop, hS1l]; omega) hcap hl (by simpa only [List.append_assoc] using hH)) ?_
                  rintro e w ⟨rfl, S2, p2, s2, hH⟩
                  refine ⟨_, rfl, fun A hF => ?_⟩
                  refine wpList_nil ?_
                  refine fin (M := []) (hs := []) tab hF hH rfl (by first | exact trivial | (simp only [All, inK_i64, inK_u64, inK_u32, inK_u8, inK_i32, max_i64, max_u64, IntKind.bits, Int.reduceToNat, Int.reduceAdd, Nat.reducePow, Int.reducePow, and_true, true_and, and_self] <;> omega)) ?_
                  obtain ⟨q1, q2⟩ := merge_join p1 p2 s1 s2 hcross
                  rw [List.take_append_drop, List.take_append_drop] at q1
                  exact ⟨rfl, _, q1, q2, by simpa only [List.append_assoc] using hH⟩
                · skip
                  refine ev0 [0, 0, 1, 0, 0, 0, 2, 0] tab hF hH rfl (by first | exact trivial | (simp only [All, inK_i64, inK_u64, inK_u32, inK_u8, inK_i32, max_i64, max_u64, IntKind.bits, Int.reduceToNat, Int.reduceAdd, Nat.reducePow, Int.reducePow, and_true, true_and, and_self] <;> omega)) ?_
                  intro A w hF hH
                  refine wpList_nil ?_
                  refine cond_f hF rfl rfl ?_
                  refine wp_skip ?_
                  refine fin (M := []) (hs := []) tab hF hH rfl (by first | exact trivial | (simp only [All, inK_i64, inK_u64, inK_u32, inK_u8, inK_i32, max_i64, max_u64, IntKind.bits, Int.reduceToNat, Int.reduceAdd, Nat.reducePow, Int.reducePow, and_true, true_and, and_self] <;> omega)) ?_
                  have hB20 : B.drop (h - u) = [] := List.drop_eq_nil_of_le (by omega)
                  rw [hB20] at hcross hH
                  obtain ⟨q1, q2⟩ := merge_join p1 (List.Perm.refl (D.drop u ++ [])) s1 (by rw [List.append_nil]; exact hD2) hcross
                  have hj : (D.take u ++ D.drop u) ++ (B.take (h - u) ++ []) = D ++ B := by rw [← hB20, List.take_append_drop, List.take_append_drop]
                  rw [hj] at q1
                  exact ⟨rfl, _, q1, q2, by simpa only [List.append_assoc] using hH⟩
              · skip
                refine ev0 [0, 0, 2, 0, 0, 0, 0, 0] tab hF hH rfl (by first | exact trivial | (simp only [All, inK_i64, inK_u64, inK_u32, inK_u8, inK_i32, max_i64, max_u64, IntKind.bits, Int.reduceToNat, Int.reduceAdd, Nat.reducePow, Int.reducePow, and_true, true_and, and_self] <;> omega)) ?_
                intro A w hF hH
                refine wpList_nil ?_
                refine cond_f hF rfl rfl ?_
                refine wp_skip ?_
                refine fin (M := []) (hs := []) tab hF hH rfl (by first | exact trivial | (simp only [All, inK_i64, inK_u64, inK_u32, inK_u8, inK_i32, max_i64, max_u64, IntKind.bits, Int.reduceToNat, Int.reduceAdd, Nat.reducePow, Int.reducePow, and_true, true_and, and_self] <;> omega)) ?_
                have hD20 : D.drop u = [] := List.drop_eq_nil_of_le (by omega)
                rw [hD20] at hcross hH
                obtain ⟨q1, q2⟩ := merge_join p1 (List.Perm.refl ([] ++ B.drop (h - u))) s1 (by rw [List.nil_append]; exact hB2) hcross
                have hj : (D.take u ++ []) ++ (B.take (h - u) ++ B.drop (h - u)) = D ++ B := by rw [← hD20, List.take_append_drop, List.take_append_drop]
                rw [hj] at q1
                exact ⟨rfl, _, q1, q2, by simpa only [List.append_assoc] using hH⟩
            · skip
              refine ev0 [0, 0, 1, 0, 0, 0, 2, 0] tab hF hH rfl (by first | exact trivial | (simp only [All, inK_i64, inK_u64, inK_u32, inK_u8, inK_i32, max_i64, max_u64, IntKind.bits, Int.reduceToNat, Int.reduceAdd, Nat.reducePow, Int.reducePow, and_true, true_and, and_self] <;> omega)) ?_
              intro A w hF hH
              refine wpList_nil ?_
              refine cond_f hF rfl rfl ?_
              refine wp_skip ?_
              refine wp_seq ?_
              refine wp_region_lit ?_
              have hB10 : B.take (h - u) = [] := by rw [show h - u = 0 from by omega]; rfl
              obtain ⟨S1, hS1⟩ : ∃ S1, S1 = D.take u ++ B.take (h - u) := ⟨_, rfl⟩
              have p1 : S1.Perm (D.take u ++ B.take (h - u)) := by rw [hS1]
              have s1 : Srt S1 := by rw [hS1, hB10, List.append_nil]; exact hD1s
              have hS1l : S1.length = h := by rw [p1.length_eq, List.length_append, List.length_take, List.length_take]; omega
              rw [← List.append_assoc (D.take u), ← hS1] at hH
              by_cases hs1 : u < D.length
              · by_cases hs2 : h - u < B.length
                · skip
                  refine ev0 [0, 0, 1, 0, 0, 0, 1, 0] tab hF hH rfl (by first | exact trivial | (simp only [All, inK_i64, inK_u64, inK_u32, inK_u8, inK_i32, max_i64, max_u64, IntKind.bits, Int.reduceToNat, Int.reduceAdd, Nat.reducePow, Int.reducePow, and_true, true_and, and_self] <;> omega)) ?_
                  intro A w hF hH
                  refine wpList_nil ?_
                  refine cond_t hF rfl rfl ?_
                  refine wp_region_lit ?_
                  refine ev0 [0, 0, 0, 0, 0] tab hF hH rfl (by first | exact trivial | (simp only [All, inK_i64, inK_u64, inK_u32, inK_u8, inK_i32, max_i64, max_u64, IntKind.bits, Int.reduceToNat, Int.reduceAdd, Nat.reducePow, Int.reducePow, and_true, true_and, and_self] <;> omega)) ?_
                  intro A w hF hH
                  refine list_act hF rfl ?_
                  refine op_call hF rfl rfl rfl rfl rfl rfl isF81 (ih κ _ C b cap (X ++ S1) (D.drop u) (B.drop (h - u)) Y junk (a + h) (m + (h - u)) c len (by rw [List.length_drop, List.length_drop]; omega) (by rw [List.length_drop]; omega) (by rw [List.length_drop]; omega) (by rw [List.length_append, hS1l]; omega) (by rw [List.length_append, hS1l, List.length_drop]; omega) (by rw [List.length_append, hS1l, List.length_drop, List.length_drop]; omega) hD2 hB2 (by simp only [List.length_append, List.length_drop, hS1l]; omega) hcap hl (by simpa only [List.append_assoc] using hH)) ?_
                  rintro e w ⟨rfl, S2, p2, s2, hH⟩
                  refine ⟨_, rfl, fun A hF => ?_⟩
                  refine wpList_nil ?_
                  refine fin (M := []) (hs := []) tab hF hH rfl (by first | exact trivial | (simp only [All, inK_i64, inK_u64, inK_u32, inK_u8, inK_i32, max_i64, max_u64, IntKind.bits, Int.reduceToNat, Int.reduceAdd, Nat.reducePow, Int.reducePow, and_true, true_and, and_self] <;> omega)) ?_
                  obtain ⟨q1, q2⟩ := merge_join p1 p2 s1 s2 hcross
                  rw [List.take_append_drop, List.take_append_drop] at q1
                  exact ⟨rfl, _, q1, q2, by simpa only [List.append_assoc] using hH⟩
                · skip
                  refine ev0 [0, 0, 1, 0, 0, 0, 2, 0] tab hF hH rfl (by first | exact trivial | (simp only [All, inK_i64, inK_u64, inK_u32, inK_u8, inK_i32, max_i64, max_u64, IntKind.bits, Int.reduceToNat, Int.reduceAdd, Nat.reducePow, Int.reducePow, and_true, true_and, and_self] <;> omega)) ?_
                  intro A w hF hH
                  refine wpList_nil ?_
                  refine cond_f hF rfl rfl ?_
                  refine wp_skip ?_
                  refine fin (M := []) (hs := []) tab hF hH rfl (by first | exact trivial | (simp only [All, inK_i64, inK_u64, inK_u32, inK_u8, inK_i32, max_i64, max_u64, IntKind.bits, Int.reduceToNat, Int.reduceAdd, Nat.reducePow, Int.reducePow, and_true, true_and, and_self] <;> omega)) ?_
                  have hB20 : B.drop (h - u) = [] := List.drop_eq_nil_of_le (by omega)
                  rw [hB20] at hcross hH
                  obtain ⟨q1, q2⟩ := merge_join p1 (List.Perm.refl (D.drop u ++ [])) s1 (by rw [List.append_nil]; exact hD2) hcross
                  have hj : (D.take u ++ D.drop u) ++ (B.take (h - u) ++ []) = D ++ B := by rw [← hB20, List.take_append_drop, List.take_append_drop]
                  rw [hj] at q1
                  exact ⟨rfl, _, q1, q2, by simpa only [List.append_assoc] using hH⟩
              · skip
                refine ev0 [0, 0, 2, 0, 0, 0, 0, 0] tab hF hH rfl (by first | exact trivial | (simp only [All, inK_i64, inK_u64, inK_u32, inK_u8, inK_i32, max_i64, max_u64, IntKind.bits, Int.reduceToNat, Int.reduceAdd, Nat.reducePow, Int.reducePow, and_true, true_and, and_self] <;> omega)) ?_
                intro A w hF hH
                refine wpList_nil ?_
                refine cond_f hF rfl rfl ?_
                refine wp_skip ?_
                refine fin (M := []) (hs := []) tab hF hH rfl (by first | exact trivial | (simp only [All, inK_i64, inK_u64, inK_u32, inK_u8, inK_i32, max_i64, max_u64, IntKind.bits, Int.reduceToNat, Int.reduceAdd, Nat.reducePow, Int.reducePow, and_true, true_and, and_self] <;> omega)) ?_
                have hD20 : D.drop u = [] := List.drop_eq_nil_of_le (by omega)
                rw [hD20] at hcross hH
                obtain ⟨q1, q2⟩ := merge_join p1 (List.Perm.refl ([] ++ B.drop (h - u))) s1 (by rw [List.nil_append]; exact hB2) hcross
                have hj : (D.take u ++ []) ++ (B.take (h - u) ++ B.drop (h - u)) = D ++ B := by rw [← hD20, List.take_append_drop, List.take_append_drop]
                rw [hj] at q1
                exact ⟨rfl, _, q1, q2, by simpa only [List.append_assoc] using hH⟩
          · skip
            refine ev0 [0, 0, 2, 0, 0, 0, 0, 0] tab hF hH rfl (by first | exact trivial | (simp only [All, inK_i64, inK_u64, inK_u32, inK_u8, inK_i32, max_i64, max_u64, IntKind.bits, Int.reduceToNat, Int.reduceAdd, Nat.reducePow, Int.reducePow, and_true, true_and, and_self] <;> omega)) ?_
            intro A w hF hH
            refine wpList_nil ?_
            refine cond_f hF rfl rfl ?_
            refine wp_skip ?_
            refine wp_seq ?_
            refine wp_region_lit ?_
            have hD10 : D.take u = [] := by rw [show u = 0 from by omega]; rfl
            obtain ⟨S1, hS1⟩ : ∃ S1, S1 = D.take u ++ B.take (h - u) := ⟨_, rfl⟩
            have p1 : S1.Perm (D.take u ++ B.take (h - u)) := by rw [hS1]
            have s1 : Srt S1 := by rw [hS1, hD10, List.nil_append]; exact hB1s
            have hS1l : S1.length = h := by rw [p1.length_eq, List.length_append, List.length_take, List.length_take]; omega
            rw [← List.append_assoc (D.take u), ← hS1] at hH
            by_cases hs1 : u < D.length
            · by_cases hs2 : h - u < B.length
              · skip
                refine ev0 [0, 0, 1, 0, 0, 0, 1, 0] tab hF hH rfl (by first | exact trivial | (simp only [All, inK_i64, inK_u64, inK_u32, inK_u8, inK_i32, max_i64, max_u64, IntKind.bits, Int.reduceToNat, Int.reduceAdd, Nat.reducePow, Int.reducePow, and_true, true_and, and_self] <;> omega)) ?_
                intro A w hF hH
                refine wpList_nil ?_
                refine cond_t hF rfl rfl ?_
                refine wp_region_lit ?_
                refine ev0 [0, 0, 0, 0, 0] tab hF hH rfl (by first | exact trivial | (simp only [All, inK_i64, inK_u64, inK_u32, inK_u8, inK_i32, max_i64, max_u64, IntKind.bits, Int.reduceToNat, Int.reduceAdd, Nat.reducePow, Int.reducePow, and_true, true_and, and_self] <;> omega)) ?_
                intro A w hF hH
                refine list_act hF rfl ?_
                refine op_call hF rfl rfl rfl rfl rfl rfl isF81 (ih κ _ C b cap (X ++ S1) (D.drop u) (B.drop (h - u)) Y junk (a + h) (m + (h - u)) c len (by rw [List.length_drop, List.length_drop]; omega) (by rw [List.length_drop]; omega) (by rw [List.length_drop]; omega) (by rw [List.length_append, hS1l]; omega) (by rw [List.length_append, hS1l, List.length_drop]; omega) (by rw [List.length_append, hS1l, List.length_drop, List.length_drop]; omega) hD2 hB2 (by simp only [List.length_append, List.length_drop, hS1l]; omega) hcap hl (by simpa only [List.append_assoc] using hH)) ?_
                rintro e w ⟨rfl, S2, p2, s2, hH⟩
                refine ⟨_, rfl, fun A hF => ?_⟩
                refine wpList_nil ?_
                refine fin (M := []) (hs := []) tab hF hH rfl (by first | exact trivial | (simp only [All, inK_i64, inK_u64, inK_u32, inK_u8, inK_i32, max_i64, max_u64, IntKind.bits, Int.reduceToNat, Int.reduceAdd, Nat.reducePow, Int.reducePow, and_true, true_and, and_self] <;> omega)) ?_
                obtain ⟨q1, q2⟩ := merge_join p1 p2 s1 s2 hcross
                rw [List.take_append_drop, List.take_append_drop] at q1
                exact ⟨rfl, _, q1, q2, by simpa only [List.append_assoc] using hH⟩
              · skip
                refine ev0 [0, 0, 1, 0, 0, 0, 2, 0] tab hF hH rfl (by first | exact trivial | (simp only [All, inK_i64, inK_u64, inK_u32, inK_u8, inK_i32, max_i64, max_u64, IntKind.bits, Int.reduceToNat, Int.reduceAdd, Nat.reducePow, Int.reducePow, and_true, true_and, and_self] <;> omega)) ?_
                intro A w hF hH
                refine wpList_nil ?_
                refine cond_f hF rfl rfl ?_
                refine wp_skip ?_
                refine fin (M := []) (hs := []) tab hF hH rfl (by first | exact trivial | (simp only [All, inK_i64, inK_u64, inK_u32, inK_u8, inK_i32, max_i64, max_u64, IntKind.bits, Int.reduceToNat, Int.reduceAdd, Nat.reducePow, Int.reducePow, and_true, true_and, and_self] <;> omega)) ?_
                have hB20 : B.drop (h - u) = [] := List.drop_eq_nil_of_le (by omega)
                rw [hB20] at hcross hH
                obtain ⟨q1, q2⟩ := merge_join p1 (List.Perm.refl (D.drop u ++ [])) s1 (by rw [List.append_nil]; exact hD2) hcross
                have hj : (D.take u ++ D.drop u) ++ (B.take (h - u) ++ []) = D ++ B := by rw [← hB20, List.take_append_drop, List.take_append_drop]
                rw [hj] at q1
                exact ⟨rfl, _, q1, q2, by simpa only [List.append_assoc] using hH⟩
            · skip
              refine ev0 [0, 0, 2, 0, 0, 0, 0, 0] tab hF hH rfl (by first | exact trivial | (simp only [All, inK_i64, inK_u64, inK_u32, inK_u8, inK_i32, max_i64, max_u64, IntKind.bits, Int.reduceToNat, Int.reduceAdd, Nat.reducePow, Int.reducePow, and_true, true_and, and_self] <;> omega)) ?_
              intro A w hF hH
              refine wpList_nil ?_
              refine cond_f hF rfl rfl ?_
              refine wp_skip ?_
              refine fin (M := []) (hs := []) tab hF hH rfl (by first | exact trivial | (simp only [All, inK_i64, inK_u64, inK_u32, inK_u8, inK_i32, max_i64, max_u64, IntKind.bits, Int.reduceToNat, Int.reduceAdd, Nat.reducePow, Int.reducePow, and_true, true_and, and_self] <;> omega)) ?_
              have hD20 : D.drop u = [] := List.drop_eq_nil_of_le (by omega)
              rw [hD20] at hcross hH
              obtain ⟨q1, q2⟩ := merge_join p1 (List.Perm.refl ([] ++ B.drop (h - u))) s1 (by rw [List.nil_append]; exact hB2) hcross
              have hj : (D.take u ++ []) ++ (B.take (h - u) ++ B.drop (h - u)) = D ++ B := by rw [← hD20, List.take_append_drop, List.take_append_drop]
              rw [hj] at q1
              exact ⟨rfl, _, q1, q2, by simpa only [List.append_assoc] using hH⟩
        · skip
          refine ev0 [0, 0, 1, 0, 0, 0, 2, 0] tab hF hH rfl (by first | exact trivial | (simp only [All, inK_i64, inK_u64, inK_u32, inK_u8, inK_i32, max_i64, max_u64, IntKind.bits, Int.reduceToNat, Int.reduceAdd, Nat.reducePow, Int.reducePow, and_true, true_and, and_self] <;> omega)) ?_
          intro A w hF hH
          refine wpList_nil ?_
          refine cond_f hF rfl rfl ?_
          refine wp_skip ?_
          refine wp_seq ?_
          refine wp_seq ?_
          refine wp_region_lit ?_
          have hB0 : B.take (h - u) = [] := by rw [show h - u = 0 from by omega]; rfl
          have hH : Hp κ w (row b ((X ++ (D.take u ++ (B.take (h - u) ++ (D.drop u ++ (B.drop (h - u) ++ Y))))).flatMap jenc ++ junk) 40 :: C) := by rw [hB0] at hH ⊢; exact hH
          by_cases hu0 : 0 < u
          · by_cases hv0 : u < h
            · skip
              refine ev0 [0, 0, 1, 0, 0, 0, 1, 0] tab hF hH rfl (by first | exact trivial | (simp only [All, inK_i64, inK_u64, inK_u32, inK_u8, inK_i32, max_i64, max_u64, IntKind.bits, Int.reduceToNat, Int.reduceAdd, Nat.reducePow, Int.reducePow, and_true, true_and, and_self] <;> omega)) ?_
              intro A w hF hH
              refine wpList_nil ?_
              refine cond_t hF rfl rfl ?_
              refine wp_region_lit ?_
              refine ev0 [0, 0, 0, 0, 0] tab hF hH rfl (by first | exact trivial | (simp only [All, inK_i64, inK_u64, inK_u32, inK_u8, inK_i32, max_i64, max_u64, IntKind.bits, Int.reduceToNat, Int.reduceAdd, Nat.reducePow, Int.reducePow, and_true, true_and, and_self] <;> omega)) ?_
              intro A w hF hH
              refine list_act hF rfl ?_
              refine op_call hF rfl rfl rfl rfl rfl rfl isF81 (ih κ _ C b cap X (D.take u) (B.take (h - u)) (D.drop u ++ (B.drop (h - u) ++ Y)) junk a (a + u) (a + h) len (by rw [List.length_take, List.length_take]; omega) (by rw [List.length_take]; omega) (by rw [List.length_take]; omega) ha (by rw [List.length_take]; omega) (by rw [List.length_take, List.length_take]; omega) hD1s hB1s (by simp only [List.length_append, List.length_drop, List.length_take]; omega) hcap hl (by simpa only [List.append_assoc] using hH)) ?_
              rintro e w ⟨rfl, S1, p1, s1, hH⟩
              refine ⟨_, rfl, fun A hF => ?_⟩
              refine wpList_nil ?_
              refine wp_seq ?_
              refine wp_region_lit ?_
              have hS1l : S1.length = h := by rw [p1.length_eq, List.length_append, List.length_take, List.length_take]; omega
              by_cases hs1 : u < D.length
              · by_cases hs2 : h - u < B.length
                · skip
                  refine ev0 [0, 0, 1, 0, 0, 0, 1, 0] tab hF hH rfl (by first | exact trivial | (simp only [All, inK_i64, inK_u64, inK_u32, inK_u8, inK_i32, max_i64, max_u64, IntKind.bits, Int.reduceToNat, Int.reduceAdd, Nat.reducePow, Int.reducePow, and_true, true_and, and_self] <;> omega)) ?_
                  intro A w hF hH
                  refine wpList_nil ?_
                  refine cond_t hF rfl rfl ?_
                  refine wp_region_lit ?_
                  refine ev0 [0, 0, 0, 0, 0] tab hF hH rfl (by first | exact trivial | (simp only [All, inK_i64, inK_u64, inK_u32, inK_u8, inK_i32, max_i64, max_u64, IntKind.bits, Int.reduceToNat, Int.reduceAdd, Nat.reducePow, Int.reducePow, and_true, true_and, and_self] <;> omega)) ?_
                  intro A w hF hH
                  refine list_act hF rfl ?_
                  refine op_call hF rfl rfl rfl rfl rfl rfl isF81 (ih κ _ C b cap (X ++ S1) (D.drop u) (B.drop (h - u)) Y junk (a + h) (m + (h - u)) c len (by rw [List.length_drop, List.length_drop]; omega) (by rw [List.length_drop]; omega) (by rw [List.length_drop]; omega) (by rw [List.length_append, hS1l]; omega) (by rw [List.length_append, hS1l, List.length_drop]; omega) (by rw [List.length_append, hS1l, List.length_drop, List.length_drop]; omega) hD2 hB2 (by simp only [List.length_append, List.length_drop, hS1l]; omega) hcap hl (by simpa only [List.append_assoc] using hH)) ?_
                  rintro e w ⟨rfl, S2, p2, s2, hH⟩
                  refine ⟨_, rfl, fun A hF => ?_⟩
                  refine wpList_nil ?_
                  refine fin (M := []) (hs := []) tab hF hH rfl (by first | exact trivial | (simp only [All, inK_i64, inK_u64, inK_u32, inK_u8, inK_i32, max_i64, max_u64, IntKind.bits, Int.reduceToNat, Int.reduceAdd, Nat.reducePow, Int.reducePow, and_true, true_and, and_self] <;> omega)) ?_
                  obtain ⟨q1, q2⟩ := merge_join p1 p2 s1 s2 hcross
                  rw [List.take_append_drop, List.take_append_drop] at q1
                  exact ⟨rfl, _, q1, q2, by simpa only [List.append_assoc] using hH⟩
                · skip
                  refine ev0 [0, 0, 1, 0, 0, 0, 2, 0] tab hF hH rfl (by first | exact trivial | (simp only [All, inK_i64, inK_u64, inK_u32, inK_u8, inK_i32, max_i64, max_u64, IntKind.bits, Int.reduceToNat, Int.reduceAdd, Nat.reducePow, Int.reducePow, and_true, true_and, and_self] <;> omega)) ?_
                  intro A w hF hH
                  refine wpList_nil ?_
                  refine cond_f hF rfl rfl ?_
                  refine wp_skip ?_
                  refine fin (M := []) (hs := []) tab hF hH rfl (by first | exact trivial | (simp only [All, inK_i64, inK_u64, inK_u32, inK_u8, inK_i32, max_i64, max_u64, IntKind.bits, Int.reduceToNat, Int.reduceAdd, Nat.reducePow, Int.reducePow, and_true, true_and, and_self] <;> omega)) ?_
                  have hB20 : B.drop (h - u) = [] := List.drop_eq_nil_of_le (by omega)
                  rw [hB20] at hcross hH
                  obtain ⟨q1, q2⟩ := merge_join p1 (List.Perm.refl (D.drop u ++ [])) s1 (by rw [List.append_nil]; exact hD2) hcross
                  have hj : (D.take u ++ D.drop u) ++ (B.take (h - u) ++ []) = D ++ B := by rw [← hB20, List.take_append_drop, List.take_append_drop]
                  rw [hj] at q1
                  exact ⟨rfl, _, q1, q2, by simpa only [List.append_assoc] using hH⟩
              · skip
                refine ev0 [0, 0, 2, 0, 0, 0, 0, 0] tab hF hH rfl (by first | exact trivial | (simp only [All, inK_i64, inK_u64, inK_u32, inK_u8, inK_i32, max_i64, max_u64, IntKind.bits, Int.reduceToNat, Int.reduceAdd, Nat.reducePow, Int.reducePow, and_true, true_and, and_self] <;> omega)) ?_
                intro A w hF hH
                refine wpList_nil ?_
                refine cond_f hF rfl rfl ?_
                refine wp_skip ?_
                refine fin (M := []) (hs := []) tab hF hH rfl (by first | exact trivial | (simp only [All, inK_i64, inK_u64, inK_u32, inK_u8, inK_i32, max_i64, max_u64, IntKind.bits, Int.reduceToNat, Int.reduceAdd, Nat.reducePow, Int.reducePow, and_true, true_and, and_self] <;> omega)) ?_
                have hD20 : D.drop u = [] := List.drop_eq_nil_of_le (by omega)
                rw [hD20] at hcross hH
                obtain ⟨q1, q2⟩ := merge_join p1 (List.Perm.refl ([] ++ B.drop (h - u))) s1 (by rw [List.nil_append]; exact hB2) hcross
                have hj : (D.take u ++ []) ++ (B.take (h - u) ++ B.drop (h - u)) = D ++ B := by rw [← hD20, List.take_append_drop, List.take_append_drop]
                rw [hj] at q1
                exact ⟨rfl, _, q1, q2, by simpa only [List.append_assoc] using hH⟩
            · skip
              refine ev0 [0, 0, 1, 0, 0, 0, 2, 0] tab hF hH rfl (by first | exact trivial | (simp only [All, inK_i64, inK_u64, inK_u32, inK_u8, inK_i32, max_i64, max_u64, IntKind.bits, Int.reduceToNat, Int.reduceAdd, Nat.reducePow, Int.reducePow, and_true, true_and, and_self] <;> omega)) ?_
              intro A w hF hH
              refine wpList_nil ?_
              refine cond_f hF rfl rfl ?_
              refine wp_skip ?_
              refine wp_seq ?_
              refine wp_region_lit ?_
              have hB10 : B.take (h - u) = [] := by rw [show h - u = 0 from by omega]; rfl
              obtain ⟨S1, hS1⟩ : ∃ S1, S1 = D.take u ++ B.take (h - u) := ⟨_, rfl⟩
              have p1 : S1.Perm (D.take u ++ B.take (h - u)) := by rw [hS1]
              have s1 : Srt S1 := by rw [hS1, hB10, List.append_nil]; exact hD1s
              have hS1l : S1.length = h := by rw [p1.length_eq, List.length_append, List.length_take, List.length_take]; omega
              rw [← List.append_assoc (D.take u), ← hS1] at hH
              by_cases hs1 : u < D.length
              · by_cases hs2 : h - u < B.length
                · skip
                  refine ev0 [0, 0, 1, 0, 0, 0, 1, 0] tab hF hH rfl (by first | exact trivial | (simp only [All, inK_i64, inK_u64, inK_u32, inK_u8, inK_i32, max_i64, max_u64, IntKind.bits, Int.reduceToNat, Int.reduceAdd, Nat.reducePow, Int.reducePow, and_true, true_and, and_self] <;> omega)) ?_
                  intro A w hF hH
                  refine wpList_nil ?_
                  refine cond_t hF rfl rfl ?_
                  refine wp_region_lit ?_
                  refine ev0 [0, 0, 0, 0, 0] tab hF hH rfl (by first | exact trivial | (simp only [All, inK_i64, inK_u64, inK_u32, inK_u8, inK_i32, max_i64, max_u64, IntKind.bits, Int.reduceToNat, Int.reduceAdd, Nat.reducePow, Int.reducePow, and_true, true_and, and_self] <;> omega)) ?_
                  intro A w hF hH
                  refine list_act hF rfl ?_
                  refine op_call hF rfl rfl rfl rfl rfl rfl isF81 (ih κ _ C b cap (X ++ S1) (D.drop u) (B.drop (h - u)) Y junk (a + h) (m + (h - u)) c len (by rw [List.length_drop, List.length_drop]; omega) (by rw [List.length_drop]; omega) (by rw [List.length_drop]; omega) (by rw [List.length_append, hS1l]; omega) (by rw [List.length_append, hS1l, List.length_drop]; omega) (by rw [List.length_append, hS1l, List.length_drop, List.length_drop]; omega) hD2 hB2 (by simp only [List.length_append, List.length_drop, hS1l]; omega) hcap hl (by simpa only [List.append_assoc] using hH)) ?_
                  rintro e w ⟨rfl, S2, p2, s2, hH⟩
                  refine ⟨_, rfl, fun A hF => ?_⟩
                  refine wpList_nil ?_
                  refine fin (M := []) (hs := []) tab hF hH rfl (by first | exact trivial | (simp only [All, inK_i64, inK_u64, inK_u32, inK_u8, inK_i32, max_i64, max_u64, IntKind.bits, Int.reduceToNat, Int.reduceAdd, Nat.reducePow, Int.reducePow, and_true, true_and, and_self] <;> omega)) ?_
                  obtain ⟨q1, q2⟩ := merge_join p1 p2 s1 s2 hcross
                  rw [List.take_append_drop, List.take_append_drop] at q1
                  exact ⟨rfl, _, q1, q2, by simpa only [List.append_assoc] using hH⟩
                · skip
                  refine ev0 [0, 0, 1, 0, 0, 0, 2, 0] tab hF hH rfl (by first | exact trivial | (simp only [All, inK_i64, inK_u64, inK_u32, inK_u8, inK_i32, max_i64, max_u64, IntKind.bits, Int.reduceToNat, Int.reduceAdd, Nat.reducePow, Int.reducePow, and_true, true_and, and_self] <;> omega)) ?_
                  intro A w hF hH
                  refine wpList_nil ?_
                  refine cond_f hF rfl rfl ?_
                  refine wp_skip ?_
                  refine fin (M := []) (hs := []) tab hF hH rfl (by first | exact trivial | (simp only [All, inK_i64, inK_u64, inK_u32, inK_u8, inK_i32, max_i64, max_u64, IntKind.bits, Int.reduceToNat, Int.reduceAdd, Nat.reducePow, Int.reducePow, and_true, true_and, and_self] <;> omega)) ?_
                  have hB20 : B.drop (h - u) = [] := List.drop_eq_nil_of_le (by omega)
                  rw [hB20] at hcross hH
                  obtain ⟨q1, q2⟩ := merge_join p1 (List.Perm.refl (D.drop u ++ [])) s1 (by rw [List.append_nil]; exact hD2) hcross
                  have hj : (D.take u ++ D.drop u) ++ (B.take (h - u) ++ []) = D ++ B := by rw [← hB20, List.take_append_drop, List.take_append_drop]
                  rw [hj] at q1
                  exact ⟨rfl, _, q1, q2, by simpa only [List.append_assoc] using hH⟩
              · skip
                refine ev0 [0, 0, 2, 0, 0, 0, 0, 0] tab hF hH rfl (by first | exact trivial | (simp only [All, inK_i64, inK_u64, inK_u32, inK_u8, inK_i32, max_i64, max_u64, IntKind.bits, Int.reduceToNat, Int.reduceAdd, Nat.reducePow, Int.reducePow, and_true, true_and, and_self] <;> omega)) ?_
                intro A w hF hH
                refine wpList_nil ?_
                refine cond_f hF rfl rfl ?_
                refine wp_skip ?_
                refine fin (M := []) (hs := []) tab hF hH rfl (by first | exact trivial | (simp only [All, inK_i64, inK_u64, inK_u32, inK_u8, inK_i32, max_i64, max_u64, IntKind.bits, Int.reduceToNat, Int.reduceAdd, Nat.reducePow, Int.reducePow, and_true, true_and, and_self] <;> omega)) ?_
                have hD20 : D.drop u = [] := List.drop_eq_nil_of_le (by omega)
                rw [hD20] at hcross hH
                obtain ⟨q1, q2⟩ := merge_join p1 (List.Perm.refl ([] ++ B.drop (h - u))) s1 (by rw [List.nil_append]; exact hB2) hcross
                have hj : (D.take u ++ []) ++ (B.take (h - u) ++ B.drop (h - u)) = D ++ B := by rw [← hD20, List.take_append_drop, List.take_append_drop]
                rw [hj] at q1
                exact ⟨rfl, _, q1, q2, by simpa only [List.append_assoc] using hH⟩
          · skip
            refine ev0 [0, 0, 2, 0, 0, 0, 0, 0] tab hF hH rfl (by first | exact trivial | (simp only [All, inK_i64, inK_u64, inK_u32, inK_u8, inK_i32, max_i64, max_u64, IntKind.bits, Int.reduceToNat, Int.reduceAdd, Nat.reducePow, Int.reducePow, and_true, true_and, and_self] <;> omega)) ?_
            intro A w hF hH
            refine wpList_nil ?_
            refine cond_f hF rfl rfl ?_
            refine wp_skip ?_
            refine wp_seq ?_
            refine wp_region_lit ?_
            have hD10 : D.take u = [] := by rw [show u = 0 from by omega]; rfl
            obtain ⟨S1, hS1⟩ : ∃ S1, S1 = D.take u ++ B.take (h - u) := ⟨_, rfl⟩
            have p1 : S1.Perm (D.take u ++ B.take (h - u)) := by rw [hS1]
            have s1 : Srt S1 := by rw [hS1, hD10, List.nil_append]; exact hB1s
            have hS1l : S1.length = h := by rw [p1.length_eq, List.length_append, List.length_take, List.length_take]; omega
            rw [← List.append_assoc (D.take u), ← hS1] at hH
            by_cases hs1 : u < D.length
            · by_cases hs2 : h - u < B.length
              · skip
                refine ev0 [0, 0, 1, 0, 0, 0, 1, 0] tab hF hH rfl (by first | exact trivial | (simp only [All, inK_i64, inK_u64, inK_u32, inK_u8, inK_i32, max_i64, max_u64, IntKind.bits, Int.reduceToNat, Int.reduceAdd, Nat.reducePow, Int.reducePow, and_true, true_and, and_self] <;> omega)) ?_
                intro A w hF hH
                refine wpList_nil ?_
                refine cond_t hF rfl rfl ?_
                refine wp_region_lit ?_
                refine ev0 [0, 0, 0, 0, 0] tab hF hH rfl (by first | exact trivial | (simp only [All, inK_i64, inK_u64, inK_u32, inK_u8, inK_i32, max_i64, max_u64, IntKind.bits, Int.reduceToNat, Int.reduceAdd, Nat.reducePow, Int.reducePow, and_true, true_and, and_self] <;> omega)) ?_
                intro A w hF hH
                refine list_act hF rfl ?_
                refine op_call hF rfl rfl rfl rfl rfl rfl isF81 (ih κ _ C b cap (X ++ S1) (D.drop u) (B.drop (h - u)) Y junk (a + h) (m + (h - u)) c len (by rw [List.length_drop, List.length_drop]; omega) (by rw [List.length_drop]; omega) (by rw [List.length_drop]; omega) (by rw [List.length_append, hS1l]; omega) (by rw [List.length_append, hS1l, List.length_drop]; omega) (by rw [List.length_append, hS1l, List.length_drop, List.length_drop]; omega) hD2 hB2 (by simp only [List.length_append, List.length_drop, hS1l]; omega) hcap hl (by simpa only [List.append_assoc] using hH)) ?_
                rintro e w ⟨rfl, S2, p2, s2, hH⟩
                refine ⟨_, rfl, fun A hF => ?_⟩
                refine wpList_nil ?_
                refine fin (M := []) (hs := []) tab hF hH rfl (by first | exact trivial | (simp only [All, inK_i64, inK_u64, inK_u32, inK_u8, inK_i32, max_i64, max_u64, IntKind.bits, Int.reduceToNat, Int.reduceAdd, Nat.reducePow, Int.reducePow, and_true, true_and, and_self] <;> omega)) ?_
                obtain ⟨q1, q2⟩ := merge_join p1 p2 s1 s2 hcross
                rw [List.take_append_drop, List.take_append_drop] at q1
                exact ⟨rfl, _, q1, q2, by simpa only [List.append_assoc] using hH⟩
              · skip
                refine ev0 [0, 0, 1, 0, 0, 0, 2, 0] tab hF hH rfl (by first | exact trivial | (simp only [All, inK_i64, inK_u64, inK_u32, inK_u8, inK_i32, max_i64, max_u64, IntKind.bits, Int.reduceToNat, Int.reduceAdd, Nat.reducePow, Int.reducePow, and_true, true_and, and_self] <;> omega)) ?_
                intro A w hF hH
                refine wpList_nil ?_
                refine cond_f hF rfl rfl ?_
                refine wp_skip ?_
                refine fin (M := []) (hs := []) tab hF hH rfl (by first | exact trivial | (simp only [All, inK_i64, inK_u64, inK_u32, inK_u8, inK_i32, max_i64, max_u64, IntKind.bits, Int.reduceToNat, Int.reduceAdd, Nat.reducePow, Int.reducePow, and_true, true_and, and_self] <;> omega)) ?_
                have hB20 : B.drop (h - u) = [] := List.drop_eq_nil_of_le (by omega)
                rw [hB20] at hcross hH
                obtain ⟨q1, q2⟩ := merge_join p1 (List.Perm.refl (D.drop u ++ [])) s1 (by rw [List.append_nil]; exact hD2) hcross
                have hj : (D.take u ++ D.drop u) ++ (B.take (h - u) ++ []) = D ++ B := by rw [← hB20, List.take_append_drop, List.take_append_drop]
                rw [hj] at q1
                exact ⟨rfl, _, q1, q2, by simpa only [List.append_assoc] using hH⟩
            · skip
              refine ev0 [0, 0, 2, 0, 0, 0, 0, 0] tab hF hH rfl (by first | exact trivial | (simp only [All, inK_i64, inK_u64, inK_u32, inK_u8, inK_i32, max_i64, max_u64, IntKind.bits, Int.reduceToNat, Int.reduceAdd, Nat.reducePow, Int.reducePow, and_true, true_and, and_self] <;> omega)) ?_
              intro A w hF hH
              refine wpList_nil ?_
              refine cond_f hF rfl rfl ?_
              refine wp_skip ?_
              refine fin (M := []) (hs := []) tab hF hH rfl (by first | exact trivial | (simp only [All, inK_i64, inK_u64, inK_u32, inK_u8, inK_i32, max_i64, max_u64, IntKind.bits, Int.reduceToNat, Int.reduceAdd, Nat.reducePow, Int.reducePow, and_true, true_and, and_self] <;> omega)) ?_
              have hD20 : D.drop u = [] := List.drop_eq_nil_of_le (by omega)
              rw [hD20] at hcross hH
              obtain ⟨q1, q2⟩ := merge_join p1 (List.Perm.refl ([] ++ B.drop (h - u))) s1 (by rw [List.nil_append]; exact hB2) hcross
              have hj : (D.take u ++ []) ++ (B.take (h - u) ++ B.drop (h - u)) = D ++ B := by rw [← hD20, List.take_append_drop, List.take_append_drop]
              rw [hj] at q1
              exact ⟨rfl, _, q1, q2, by simpa only [List.append_assoc] using hH⟩
      · skip
        refine ev0 [0, 0, 2, 0, 0, 0, 0, 0] tab hF hH rfl (by first | exact trivial | (simp only [All, inK_i64, inK_u64, inK_u32, inK_u8, inK_i32, max_i64, max_u64, IntKind.bits, Int.reduceToNat, Int.reduceAdd, Nat.reducePow, Int.reducePow, and_true, true_and, and_self] <;> omega)) ?_
        intro A w hF hH
        refine wpList_nil ?_
        refine cond_f hF rfl rfl ?_
        refine wp_skip ?_
        refine wp_seq ?_
        refine wp_seq ?_
        refine wp_region_lit ?_
        have hD00 : D.drop u = [] := List.drop_eq_nil_of_le (by omega)
        have hH : Hp κ w (row b ((X ++ (D.take u ++ (B.take (h - u) ++ (D.drop u ++ (B.drop (h - u) ++ Y))))).flatMap jenc ++ junk) 40 :: C) := by rw [hD00] at hH ⊢; exact hH
        by_cases hu0 : 0 < u
        · by_cases hv0 : u < h
          · skip
            refine ev0 [0, 0, 1, 0, 0, 0, 1, 0] tab hF hH rfl (by first | exact trivial | (simp only [All, inK_i64, inK_u64, inK_u32, inK_u8, inK_i32, max_i64, max_u64, IntKind.bits, Int.reduceToNat, Int.reduceAdd, Nat.reducePow, Int.reducePow, and_true, true_and, and_self] <;> omega)) ?_
            intro A w hF hH
            refine wpList_nil ?_
            refine cond_t hF rfl rfl ?_
            refine wp_region_lit ?_
            refine ev0 [0, 0, 0, 0, 0] tab hF hH rfl (by first | exact trivial | (simp only [All, inK_i64, inK_u64, inK_u32, inK_u8, inK_i32, max_i64, max_u64, IntKind.bits, Int.reduceToNat, Int.reduceAdd, Nat.reducePow, Int.reducePow, and_true, true_and, and_self] <;> omega)) ?_
            intro A w hF hH
            refine list_act hF rfl ?_
            refine op_call hF rfl rfl rfl rfl rfl rfl isF81 (ih κ _ C b cap X (D.take u) (B.take (h - u)) (D.drop u ++ (B.drop (h - u) ++ Y)) junk a (a + u) (a + h) len (by rw [List.length_take, List.length_take]; omega) (by rw [List.length_take]; omega) (by rw [List.length_take]; omega) ha (by rw [List.length_take]; omega) (by rw [List.length_take, List.length_take]; omega) hD1s hB1s (by simp only [List.length_append, List.length_drop, List.length_take]; omega) hcap hl (by simpa only [List.append_assoc] using hH)) ?_
            rintro e w ⟨rfl, S1, p1, s1, hH⟩
            refine ⟨_, rfl, fun A hF => ?_⟩
            refine wpList_nil ?_
            refine wp_seq ?_
            refine wp_region_lit ?_
            have hS1l : S1.length = h := by rw [p1.length_eq, List.length_append, List.length_take, List.length_take]; omega
            by_cases hs1 : u < D.length
            · by_cases hs2 : h - u < B.length
              · skip
                refine ev0 [0, 0, 1, 0, 0, 0, 1, 0] tab hF hH rfl (by first | exact trivial | (simp only [All, inK_i64, inK_u64, inK_u32, inK_u8, inK_i32, max_i64, max_u64, IntKind.bits, Int.reduceToNat, Int.reduceAdd, Nat.reducePow, Int.reducePow, and_true, true_and, and_self] <;> omega)) ?_
                intro A w hF hH
                refine wpList_nil ?_
                refine cond_t hF rfl rfl ?_
                refine wp_region_lit ?_
                refine ev0 [0, 0, 0, 0, 0] tab hF hH rfl (by first | exact trivial | (simp only [All, inK_i64, inK_u64, inK_u32, inK_u8, inK_i32, max_i64, max_u64, IntKind.bits, Int.reduceToNat, Int.reduceAdd, Nat.reducePow, Int.reducePow, and_true, true_and, and_self] <;> omega)) ?_
                intro A w hF hH
                refine list_act hF rfl ?_
                refine op_call hF rfl rfl rfl rfl rfl rfl isF81 (ih κ _ C b cap (X ++ S1) (D.drop u) (B.drop (h - u)) Y junk (a + h) (m + (h - u)) c len (by rw [List.length_drop, List.length_drop]; omega) (by rw [List.length_drop]; omega) (by rw [List.length_drop]; omega) (by rw [List.length_append, hS1l]; omega) (by rw [List.length_append, hS1l, List.length_drop]; omega) (by rw [List.length_append, hS1l, List.length_drop, List.length_drop]; omega) hD2 hB2 (by simp only [List.length_append, List.length_drop, hS1l]; omega) hcap hl (by simpa only [List.append_assoc] using hH)) ?_
                rintro e w ⟨rfl, S2, p2, s2, hH⟩
                refine ⟨_, rfl, fun A hF => ?_⟩
                refine wpList_nil ?_
                refine fin (M := []) (hs := []) tab hF hH rfl (by first | exact trivial | (simp only [All, inK_i64, inK_u64, inK_u32, inK_u8, inK_i32, max_i64, max_u64, IntKind.bits, Int.reduceToNat, Int.reduceAdd, Nat.reducePow, Int.reducePow, and_true, true_and, and_self] <;> omega)) ?_
                obtain ⟨q1, q2⟩ := merge_join p1 p2 s1 s2 hcross
                rw [List.take_append_drop, List.take_append_drop] at q1
                exact ⟨rfl, _, q1, q2, by simpa only [List.append_assoc] using hH⟩
              · skip
                refine ev0 [0, 0, 1, 0, 0, 0, 2, 0] tab hF hH rfl (by first | exact trivial | (simp only [All, inK_i64, inK_u64, inK_u32, inK_u8, inK_i32, max_i64, max_u64, IntKind.bits, Int.reduceToNat, Int.reduceAdd, Nat.reducePow, Int.reducePow, and_true, true_and, and_self] <;> omega)) ?_
                intro A w hF hH
                refine wpList_nil ?_
                refine cond_f hF rfl rfl ?_
                refine wp_skip ?_
                refine fin (M := []) (hs := []) tab hF hH rfl (by first | exact trivial | (simp only [All, inK_i64, inK_u64, inK_u32, inK_u8, inK_i32, max_i64, max_u64, IntKind.bits, Int.reduceToNat, Int.reduceAdd, Nat.reducePow, Int.reducePow, and_true, true_and, and_self] <;> omega)) ?_
                have hB20 : B.drop (h - u) = [] := List.drop_eq_nil_of_le (by omega)
                rw [hB20] at hcross hH
                obtain ⟨q1, q2⟩ := merge_join p1 (List.Perm.refl (D.drop u ++ [])) s1 (by rw [List.append_nil]; exact hD2) hcross
                have hj : (D.take u ++ D.drop u) ++ (B.take (h - u) ++ []) = D ++ B := by rw [← hB20, List.take_append_drop, List.take_append_drop]
                rw [hj] at q1
                exact ⟨rfl, _, q1, q2, by simpa only [List.append_assoc] using hH⟩
            · skip
              refine ev0 [0, 0, 2, 0, 0, 0, 0, 0] tab hF hH rfl (by first | exact trivial | (simp only [All, inK_i64, inK_u64, inK_u32, inK_u8, inK_i32, max_i64, max_u64, IntKind.bits, Int.reduceToNat, Int.reduceAdd, Nat.reducePow, Int.reducePow, and_true, true_and, and_self] <;> omega)) ?_
              intro A w hF hH
              refine wpList_nil ?_
              refine cond_f hF rfl rfl ?_
              refine wp_skip ?_
              refine fin (M := []) (hs := []) tab hF hH rfl (by first | exact trivial | (simp only [All, inK_i64, inK_u64, inK_u32, inK_u8, inK_i32, max_i64, max_u64, IntKind.bits, Int.reduceToNat, Int.reduceAdd, Nat.reducePow, Int.reducePow, and_true, true_and, and_self] <;> omega)) ?_
              have hD20 : D.drop u = [] := List.drop_eq_nil_of_le (by omega)
              rw [hD20] at hcross hH
              obtain ⟨q1, q2⟩ := merge_join p1 (List.Perm.refl ([] ++ B.drop (h - u))) s1 (by rw [List.nil_append]; exact hB2) hcross
              have hj : (D.take u ++ []) ++ (B.take (h - u) ++ B.drop (h - u)) = D ++ B := by rw [← hD20, List.take_append_drop, List.take_append_drop]
              rw [hj] at q1
              exact ⟨rfl, _, q1, q2, by simpa only [List.append_assoc] using hH⟩
          · skip
            refine ev0 [0, 0, 1, 0, 0, 0, 2, 0] tab hF hH rfl (by first | exact trivial | (simp only [All, inK_i64, inK_u64, inK_u32, inK_u8, inK_i32, max_i64, max_u64, IntKind.bits, Int.reduceToNat, Int.reduceAdd, Nat.reducePow, Int.reducePow, and_true, true_and, and_self] <;> omega)) ?_
            intro A w hF hH
            refine wpList_nil ?_
            refine cond_f hF rfl rfl ?_
            refine wp_skip ?_
            refine wp_seq ?_
            refine wp_region_lit ?_
            have hB10 : B.take (h - u) = [] := by rw [show h - u = 0 from by omega]; rfl
            obtain ⟨S1, hS1⟩ : ∃ S1, S1 = D.take u ++ B.take (h - u) := ⟨_, rfl⟩
            have p1 : S1.Perm (D.take u ++ B.take (h - u)) := by rw [hS1]
            have s1 : Srt S1 := by rw [hS1, hB10, List.append_nil]; exact hD1s
            have hS1l : S1.length = h := by rw [p1.length_eq, List.length_append, List.length_take, List.length_take]; omega
            rw [← List.append_assoc (D.take u), ← hS1] at hH
            by_cases hs1 : u < D.length
            · by_cases hs2 : h - u < B.length
              · skip
                refine ev0 [0, 0, 1, 0, 0, 0, 1, 0] tab hF hH rfl (by first | exact trivial | (simp only [All, inK_i64, inK_u64, inK_u32, inK_u8, inK_i32, max_i64, max_u64, IntKind.bits, Int.reduceToNat, Int.reduceAdd, Nat.reducePow, Int.reducePow, and_true, true_and, and_self] <;> omega)) ?_
                intro A w hF hH
                refine wpList_nil ?_
                refine cond_t hF rfl rfl ?_
                refine wp_region_lit ?_
                refine ev0 [0, 0, 0, 0, 0] tab hF hH rfl (by first | exact trivial | (simp only [All, inK_i64, inK_u64, inK_u32, inK_u8, inK_i32, max_i64, max_u64, IntKind.bits, Int.reduceToNat, Int.reduceAdd, Nat.reducePow, Int.reducePow, and_true, true_and, and_self] <;> omega)) ?_
                intro A w hF hH
                refine list_act hF rfl ?_
                refine op_call hF rfl rfl rfl rfl rfl rfl isF81 (ih κ _ C b cap (X ++ S1) (D.drop u) (B.drop (h - u)) Y junk (a + h) (m + (h - u)) c len (by rw [List.length_drop, List.length_drop]; omega) (by rw [List.length_drop]; omega) (by rw [List.length_drop]; omega) (by rw [List.length_append, hS1l]; omega) (by rw [List.length_append, hS1l, List.length_drop]; omega) (by rw [List.length_append, hS1l, List.length_drop, List.length_drop]; omega) hD2 hB2 (by simp only [List.length_append, List.length_drop, hS1l]; omega) hcap hl (by simpa only [List.append_assoc] using hH)) ?_
                rintro e w ⟨rfl, S2, p2, s2, hH⟩
                refine ⟨_, rfl, fun A hF => ?_⟩
                refine wpList_nil ?_
                refine fin (M := []) (hs := []) tab hF hH rfl (by first | exact trivial | (simp only [All, inK_i64, inK_u64, inK_u32, inK_u8, inK_i32, max_i64, max_u64, IntKind.bits, Int.reduceToNat, Int.reduceAdd, Nat.reducePow, Int.reducePow, and_true, true_and, and_self] <;> omega)) ?_
                obtain ⟨q1, q2⟩ := merge_join p1 p2 s1 s2 hcross
                rw [List.take_append_drop, List.take_append_drop] at q1
                exact ⟨rfl, _, q1, q2, by simpa only [List.append_assoc] using hH⟩
              · skip
                refine ev0 [0, 0, 1, 0, 0, 0, 2, 0] tab hF hH rfl (by first | exact trivial | (simp only [All, inK_i64, inK_u64, inK_u32, inK_u8, inK_i32, max_i64, max_u64, IntKind.bits, Int.reduceToNat, Int.reduceAdd, Nat.reducePow, Int.reducePow, and_true, true_and, and_self] <;> omega)) ?_
                intro A w hF hH
                refine wpList_nil ?_
                refine cond_f hF rfl rfl ?_
                refine wp_skip ?_
                refine fin (M := []) (hs := []) tab hF hH rfl (by first | exact trivial | (simp only [All, inK_i64, inK_u64, inK_u32, inK_u8, inK_i32, max_i64, max_u64, IntKind.bits, Int.reduceToNat, Int.reduceAdd, Nat.reducePow, Int.reducePow, and_true, true_and, and_self] <;> omega)) ?_
                have hB20 : B.drop (h - u) = [] := List.drop_eq_nil_of_le (by omega)
                rw [hB20] at hcross hH
                obtain ⟨q1, q2⟩ := merge_join p1 (List.Perm.refl (D.drop u ++ [])) s1 (by rw [List.append_nil]; exact hD2) hcross
                have hj : (D.take u ++ D.drop u) ++ (B.take (h - u) ++ []) = D ++ B := by rw [← hB20, List.take_append_drop, List.take_append_drop]
                rw [hj] at q1
                exact ⟨rfl, _, q1, q2, by simpa only [List.append_assoc] using hH⟩
            · skip
              refine ev0 [0, 0, 2, 0, 0, 0, 0, 0] tab hF hH rfl (by first | exact trivial | (simp only [All, inK_i64, inK_u64, inK_u32, inK_u8, inK_i32, max_i64, max_u64, IntKind.bits, Int.reduceToNat, Int.reduceAdd, Nat.reducePow, Int.reducePow, and_true, true_and, and_self] <;> omega)) ?_
              intro A w hF hH
              refine wpList_nil ?_
              refine cond_f hF rfl rfl ?_
              refine wp_skip ?_
              refine fin (M := []) (hs := []) tab hF hH rfl (by first | exact trivial | (simp only [All, inK_i64, inK_u64, inK_u32, inK_u8, inK_i32, max_i64, max_u64, IntKind.bits, Int.reduceToNat, Int.reduceAdd, Nat.reducePow, Int.reducePow, and_true, true_and, and_self] <;> omega)) ?_
              have hD20 : D.drop u = [] := List.drop_eq_nil_of_le (by omega)
              rw [hD20] at hcross hH
              obtain ⟨q1, q2⟩ := merge_join p1 (List.Perm.refl ([] ++ B.drop (h - u))) s1 (by rw [List.nil_append]; exact hB2) hcross
              have hj : (D.take u ++ []) ++ (B.take (h - u) ++ B.drop (h - u)) = D ++ B := by rw [← hD20, List.take_append_drop, List.take_append_drop]
              rw [hj] at q1
              exact ⟨rfl, _, q1, q2, by simpa only [List.append_assoc] using hH⟩
        · skip
          refine ev0 [0, 0, 2, 0, 0, 0, 0, 0] tab hF hH rfl (by first | exact trivial | (simp only [All, inK_i64, inK_u64, inK_u32, inK_u8, inK_i32, max_i64, max_u64, IntKind.bits, Int.reduceToNat, Int.reduceAdd, Nat.reducePow, Int.reducePow, and_true, true_and, and_self] <;> omega)) ?_
          intro A w hF hH
          refine wpList_nil ?_
          refine cond_f hF rfl rfl ?_
          refine wp_skip ?_
          refine wp_seq ?_
          refine wp_region_lit ?_
          have hD10 : D.take u = [] := by rw [show u = 0 from by omega]; rfl
          obtain ⟨S1, hS1⟩ : ∃ S1, S1 = D.take u ++ B.take (h - u) := ⟨_, rfl⟩
          have p1 : S1.Perm (D.take u ++ B.take (h - u)) := by rw [hS1]
          have s1 : Srt S1 := by rw [hS1, hD10, List.nil_append]; exact hB1s
          have hS1l : S1.length = h := by rw [p1.length_eq, List.length_append, List.length_take, List.length_take]; omega
          rw [← List.append_assoc (D.take u), ← hS1] at hH
          by_cases hs1 : u < D.length
          · by_cases hs2 : h - u < B.length
            · skip
              refine ev0 [0, 0, 1, 0, 0, 0, 1, 0] tab hF hH rfl (by first | exact trivial | (simp only [All, inK_i64, inK_u64, inK_u32, inK_u8, inK_i32, max_i64, max_u64, IntKind.bits, Int.reduceToNat, Int.reduceAdd, Nat.reducePow, Int.reducePow, and_true, true_and, and_self] <;> omega)) ?_
              intro A w hF hH
              refine wpList_nil ?_
              refine cond_t hF rfl rfl ?_
              refine wp_region_lit ?_
              refine ev0 [0, 0, 0, 0, 0] tab hF hH rfl (by first | exact trivial | (simp only [All, inK_i64, inK_u64, inK_u32, inK_u8, inK_i32, max_i64, max_u64, IntKind.bits, Int.reduceToNat, Int.reduceAdd, Nat.reducePow, Int.reducePow, and_true, true_and, and_self] <;> omega)) ?_
              intro A w hF hH
              refine list_act hF rfl ?_
              refine op_call hF rfl rfl rfl rfl rfl rfl isF81 (ih κ _ C b cap (X ++ S1) (D.drop u) (B.drop (h - u)) Y junk (a + h) (m + (h - u)) c len (by rw [List.length_drop, List.length_drop]; omega) (by rw [List.length_drop]; omega) (by rw [List.length_drop]; omega) (by rw [List.length_append, hS1l]; omega) (by rw [List.length_append, hS1l, List.length_drop]; omega) (by rw [List.length_append, hS1l, List.length_drop, List.length_drop]; omega) hD2 hB2 (by simp only [List.length_append, List.length_drop, hS1l]; omega) hcap hl (by simpa only [List.append_assoc] using hH)) ?_
              rintro e w ⟨rfl, S2, p2, s2, hH⟩
              refine ⟨_, rfl, fun A hF => ?_⟩
              refine wpList_nil ?_
              refine fin (M := []) (hs := []) tab hF hH rfl (by first | exact trivial | (simp only [All, inK_i64, inK_u64, inK_u32, inK_u8, inK_i32, max_i64, max_u64, IntKind.bits, Int.reduceToNat, Int.reduceAdd, Nat.reducePow, Int.reducePow, and_true, true_and, and_self] <;> omega)) ?_
              obtain ⟨q1, q2⟩ := merge_join p1 p2 s1 s2 hcross
              rw [List.take_append_drop, List.take_append_drop] at q1
              exact ⟨rfl, _, q1, q2, by simpa only [List.append_assoc] using hH⟩
            · skip
              refine ev0 [0, 0, 1, 0, 0, 0, 2, 0] tab hF hH rfl (by first | exact trivial | (simp only [All, inK_i64, inK_u64, inK_u32, inK_u8, inK_i32, max_i64, max_u64, IntKind.bits, Int.reduceToNat, Int.reduceAdd, Nat.reducePow, Int.reducePow, and_true, true_and, and_self] <;> omega)) ?_
              intro A w hF hH
              refine wpList_nil ?_
              refine cond_f hF rfl rfl ?_
              refine wp_skip ?_
              refine fin (M := []) (hs := []) tab hF hH rfl (by first | exact trivial | (simp only [All, inK_i64, inK_u64, inK_u32, inK_u8, inK_i32, max_i64, max_u64, IntKind.bits, Int.reduceToNat, Int.reduceAdd, Nat.reducePow, Int.reducePow, and_true, true_and, and_self] <;> omega)) ?_
              have hB20 : B.drop (h - u) = [] := List.drop_eq_nil_of_le (by omega)
              rw [hB20] at hcross hH
              obtain ⟨q1, q2⟩ := merge_join p1 (List.Perm.refl (D.drop u ++ [])) s1 (by rw [List.append_nil]; exact hD2) hcross
              have hj : (D.take u ++ D.drop u) ++ (B.take (h - u) ++ []) = D ++ B := by rw [← hB20, List.take_append_drop, List.take_append_drop]
              rw [hj] at q1
              exact ⟨rfl, _, q1, q2, by simpa only [List.append_assoc] using hH⟩
          · skip
            refine ev0 [0, 0, 2, 0, 0, 0, 0, 0] tab hF hH rfl (by first | exact trivial | (simp only [All, inK_i64, inK_u64, inK_u32, inK_u8, inK_i32, max_i64, max_u64, IntKind.bits, Int.reduceToNat, Int.reduceAdd, Nat.reducePow, Int.reducePow, and_true, true_and, and_self] <;> omega)) ?_
            intro A w hF hH
            refine wpList_nil ?_
            refine cond_f hF rfl rfl ?_
            refine wp_skip ?_
            refine fin (M := []) (hs := []) tab hF hH rfl (by first | exact trivial | (simp only [All, inK_i64, inK_u64, inK_u32, inK_u8, inK_i32, max_i64, max_u64, IntKind.bits, Int.reduceToNat, Int.reduceAdd, Nat.reducePow, Int.reducePow, and_true, true_and, and_self] <;> omega)) ?_
            have hD20 : D.drop u = [] := List.drop_eq_nil_of_le (by omega)
            rw [hD20] at hcross hH
            obtain ⟨q1, q2⟩ := merge_join p1 (List.Perm.refl ([] ++ B.drop (h - u))) s1 (by rw [List.nil_append]; exact hB2) hcross
            have hj : (D.take u ++ []) ++ (B.take (h - u) ++ B.drop (h - u)) = D ++ B := by rw [← hD20, List.take_append_drop, List.take_append_drop]
            rw [hj] at q1
            exact ⟨rfl, _, q1, q2, by simpa only [List.append_assoc] using hH⟩
  · skip
    refine ev0 [0, 0, 2] tab hF hH rfl (by first | exact trivial | (simp only [All, inK_i64, inK_u64, inK_u32, inK_u8, inK_i32, max_i64, max_u64, IntKind.bits, Int.reduceToNat, Int.reduceAdd, Nat.reducePow, Int.reducePow, and_true, true_and, and_self] <;> omega)) ?_
    intro A w hF hH
    refine wpList_nil ?_
    refine cond_f hF rfl rfl ?_
    refine wp_seq ?_
    refine wp_region_lit ?_
    refine ev0 [0, 0] tab hF hH rfl (by first | exact trivial | (simp only [All, inK_i64, inK_u64, inK_u32, inK_u8, inK_i32, max_i64, max_u64, IntKind.bits, Int.reduceToNat, Int.reduceAdd, Nat.reducePow, Int.reducePow, and_true, true_and, and_self] <;> omega)) ?_
    intro A w hF hH
    refine wpList_nil ?_
    refine wp_region_lit ?_
    refine ev0 [0, 0] tab hF hH rfl (by first | exact trivial | (simp only [All, inK_i64, inK_u64, inK_u32, inK_u8, inK_i32, max_i64, max_u64, IntKind.bits, Int.reduceToNat, Int.reduceAdd, Nat.reducePow, Int.reducePow, and_true, true_and, and_self] <;> omega)) ?_
    intro A w hF hH
    refine wpList_nil ?_
    refine wp_seq ?_
    refine wp_region_lit ?_
    refine ev0 [0, 0, 0] tab hF hH rfl (by first | exact trivial | (simp only [All, inK_i64, inK_u64, inK_u32, inK_u8, inK_i32, max_i64, max_u64, IntKind.bits, Int.reduceToNat, Int.reduceAdd, Nat.reducePow, Int.reducePow, and_true, true_and, and_self] <;> omega)) ?_
    intro A w hF hH
    refine wpList_nil ?_
    refine wp_seq ?_
    refine wp_block ?_
    have w1 : (a : Int) = a + lo := by omega
    have w2 : (m : Int) = a + hi := by omega
    refine loop_j (fun (p : Nat × Nat) A w => lo ≤ p.1 ∧ p.1 ≤ p.2 ∧ p.2 ≤ hi ∧ (∀ (h1 : p.1 - 1 < D.length) (h2 : h - p.1 < B.length), lo < p.1 → leP D[p.1 - 1] B[h - p.1]) ∧ (∀ (h1 : h - 1 - p.2 < B.length) (h2 : p.2 < D.length), p.2 < hi → leP B[h - 1 - p.2] D[p.2]) ∧ Fr 220 A [(20, .int .i64 (a + p.1)), (21, .int .i64 (a + p.2)), (22, .int .i64 (a + h + m - 1)), (19, .int .i64 (a + h + m)), (18, .int .i64 (a + h)), (0, .slice (some ⟨b, 0, none⟩) len cap), (1, .int .i64 a), (2, .int .i64 m), (3, .int .i64 c), (4, .func (.func 37) #[] #[])] ∧ Hp κ w (row b ((X ++ (D ++ B) ++ Y).flatMap jenc ++ junk) 40 :: C)) (fun p => p.2 - p.1) (lo, hi) ⟨Nat.le_refl _, by simp only; omega, Nat.le_refl _, (fun h1 h2 h3 => absurd h3 (Nat.lt_irrefl _)), (fun h1 h2 h3 => absurd h3 (Nat.lt_irrefl _)), Fr.to hF ⟨by rw [← w1]; rfl, by rw [← w2]; rfl, rfl, rfl, rfl, rfl, rfl, rfl, rfl, rfl, trivial⟩, hH⟩ ?_
    rintro ⟨u, r⟩ A w ⟨hu1, hur, hr1, g1, g2, hF, hH⟩
    simp only at hu1 hur hr1 g1 g2
    refine wp_seq ?_
    refine wp_seq ?_
    refine wp_region_lit ?_
    by_cases hlt : u < r
    · refine ev0 [0, 0, 1] tab hF hH rfl (by first | exact trivial | (simp only [All, inK_i64, inK_u64, inK_u32, inK_u8, inK_i32, max_i64, max_u64, IntKind.bits, Int.reduceToNat, Int.reduceAdd, Nat.reducePow, Int.reducePow, and_true, true_and, and_self] <;> omega)) ?_
      intro A w hF hH
      refine wpList_nil ?_
      refine cond_t hF rfl rfl ?_
      refine wp_skip ?_
      refine wp_block ?_
      refine wp_seq ?_
      refine wp_region_lit ?_
      have hx : ((a : Int) + u + (a + r)) / 2 = a + (((u + r) / 2 : Nat) : Int) := by omega
      refine ev0 [0, 0, 0, 0, 0, 0, 0] tab hF hH rfl (by first | exact trivial | (simp only [All, inK_i64, inK_u64, inK_u32, inK_u8, inK_i32, max_i64, max_u64, IntKind.bits, Int.reduceToNat, Int.reduceAdd, Nat.reducePow, Int.reducePow, and_true, true_and, and_self] <;> omega)) ?_
      intro A w hF hH
      simp only [Int.reduceToNat, Int.reducePow, hx] at hF
      refine wpList_nil ?_
      refine wp_seq ?_
      obtain ⟨x, hxe⟩ : ∃ x, x = (u + r) / 2 := ⟨_, rfl⟩
      rw [← hxe] at hF
      have hxD : x < D.length := by omega
      have hxB : h - 1 - x < B.length := by omega
      have e1 : X ++ (D ++ B) ++ Y = (X ++ D.take x) ++ D[x] :: (D.drop (x + 1) ++ (B ++ Y)) := by
        conv => lhs; rw [← List.take_append_drop x D, List.drop_eq_getElem_cons hxD]
        simp only [List.append_assoc, List.cons_append]
      have e2 : X ++ (D ++ B) ++ Y = (X ++ D ++ B.take (h - 1 - x)) ++ B[h - 1 - x] :: (B.drop (h - 1 - x + 1) ++ Y) := by
        conv => lhs; rw [← List.take_append_drop (h - 1 - x) B, List.drop_eq_getElem_cons hxB]
        simp only [List.append_assoc, List.cons_append]
      have a1 := At.own (κ := κ) (X := [row b ((X ++ (D ++ B) ++ Y).flatMap jenc ++ junk) 40]) (off := (a + x) * 5) (vs := jenc D[x]) 0 rfl (by rw [e1]; exact getM junk (by simp; omega))
      have a2 := At.own (κ := κ) (X := [row b ((X ++ (D ++ B) ++ Y).flatMap jenc ++ junk) 40]) (off := (m + (h - 1 - x)) * 5) (vs := jenc B[h - 1 - x]) 0 rfl (by rw [e2]; exact getM junk (by simp; omega))
      refine dr_reads (by kernel_rfl) [] [row b ((X ++ (D ++ B) ++ Y).flatMap jenc ++ junk) 40] [] [(0, 0), (1, 0), (2, 0), (3, 0), (4, 0), (5, 0), (6, 3), (7, 0), (8, 0), (9, 0), (10, 1)] 3 tab (LFok.cons a1 (LFok.cons a2 (LFok.nil _ _))) (by kernel_rfl) rfl hF hH (by kernel_rfl) rfl (by first | exact trivial | (simp only [All, inK_i64, inK_u64, inK_u32, inK_u8, inK_i32, max_i64, max_u64, IntKind.bits, Int.reduceToNat, Int.reduceAdd, Nat.reducePow, Int.reducePow, and_true, true_and, and_self] <;> omega)) ?_
      intro A w hF hH
      refine dr_act (k := 11) (by kernel_rfl) rfl hF rfl ?_
      refine op_call hF rfl rfl rfl rfl rfl rfl isF37 (order_calls B[h - 1 - x] D[x] hH) ?_
      rintro e w ⟨rfl, hH⟩
      refine ⟨_, rfl, fun A hF => ?_⟩
      refine ⟨fun _ => Keeps.of hH (K.le.refl _), ?_⟩
      by_cases ho : ordF B[h - 1 - x] D[x] < 0
      · refine dr_more [] [row b ((X ++ (D ++ B) ++ Y).flatMap jenc ++ junk) 40] [(12, 1), (13, 0)] 0 (K.le.refl _) tab (LFok.nil _ _) (by kernel_rfl) rfl hF hH (by kernel_rfl) rfl (by first | exact trivial | (simp only [All, inK_i64, inK_u64, inK_u32, inK_u8, inK_i32, max_i64, max_u64, IntKind.bits, Int.reduceToNat, Int.reduceAdd, Nat.reducePow, Int.reducePow, and_true, true_and, and_self] <;> omega)) ?_
        intro A hF
        refine dr_done (by kernel_rfl) ?_ _
        refine cond_f hF rfl rfl ?_
        refine wp_region_lit ?_
        refine ev0 [0, 0] tab hF hH rfl (by first | exact trivial | (simp only [All, inK_i64, inK_u64, inK_u32, inK_u8, inK_i32, max_i64, max_u64, IntKind.bits, Int.reduceToNat, Int.reduceAdd, Nat.reducePow, Int.reducePow, and_true, true_and, and_self] <;> omega)) ?_
        intro A w hF hH
        refine wpList_nil ?_
        exact ⟨(u, x), ⟨hu1, by simp only; omega, by simp only; omega, g1, (fun h1 h2 h3 => ord_lt _ _ ho), Fr.to hF ⟨rfl, rfl, rfl, rfl, rfl, rfl, rfl, rfl, rfl, rfl, trivial⟩, hH⟩, by simp only; omega⟩
      · skip
        refine dr_more [] [row b ((X ++ (D ++ B) ++ Y).flatMap jenc ++ junk) 40] [(12, 2), (13, 0)] 0 (K.le.refl _) tab (LFok.nil _ _) (by kernel_rfl) rfl hF hH (by kernel_rfl) rfl (by first | exact trivial | (simp only [All, inK_i64, inK_u64, inK_u32, inK_u8, inK_i32, max_i64, max_u64, IntKind.bits, Int.reduceToNat, Int.reduceAdd, Nat.reducePow, Int.reducePow, and_true, true_and, and_self] <;> omega)) ?_
        intro A hF
        refine dr_done (by kernel_rfl) ?_ _
        refine cond_t hF rfl rfl ?_
        refine wp_region_lit ?_
        refine ev0 [0, 0, 0] tab hF hH rfl (by first | exact trivial | (simp only [All, inK_i64, inK_u64, inK_u32, inK_u8, inK_i32, max_i64, max_u64, IntKind.bits, Int.reduceToNat, Int.reduceAdd, Nat.reducePow, Int.reducePow, and_true, true_and, and_self] <;> omega)) ?_
        intro A w hF hH
        simp only [Int.add_assoc] at hF
        refine wpList_nil ?_
        have ho2 := (ord_le _ _).1 ho
        exact ⟨(x + 1, r), ⟨by simp only; omega, by simp only; omega, hr1, (fun h1 h2 h3 => by
          simp only [show h - (x + 1) = h - 1 - x from by omega, Nat.add_sub_cancel]; exact ho2), g2, Fr.to hF ⟨rfl, rfl, by simp only [Int.add_assoc]; rfl, by simp only [Int.add_assoc]; rfl, rfl, rfl, rfl, rfl, rfl, rfl, trivial⟩, hH⟩, by simp only; omega⟩
    · skip
      have eur : u = r := by omega
      subst eur
      refine ev0 [0, 0, 2] tab hF hH rfl (by first | exact trivial | (simp only [All, inK_i64, inK_u64, inK_u32, inK_u8, inK_i32, max_i64, max_u64, IntKind.bits, Int.reduceToNat, Int.reduceAdd, Nat.reducePow, Int.reducePow, and_true, true_and, and_self] <;> omega)) ?_
      intro A w hF hH
      refine wpList_nil ?_
      refine cond_f hF rfl rfl ?_
      refine wp_exit ?_
      repeat (first | refine then_exit ?_ | refine ng_exit ?_ | refine blk_exit ?_ | refine blk_exit_ne rfl ?_)
      refine wp_seq ?_
      refine wp_region_lit ?_
      have hend : (a : Int) + h + m - (a + u) = m + ((h - u : Nat) : Int) := by omega
      have hcross := merge_cross hD hB (u := u) (v := h - u) (by omega) (by omega) (fun h1 h2 h3 => g1 h1 h2 (by omega)) (fun h1 h2 h3 => by
        have := g2 (by omega) h2 (by omega)
        simpa only [show h - 1 - u = h - u - 1 from by omega] using this)
      have hD1s : Srt (D.take u) := List.Pairwise.sublist (List.take_sublist _ _) hD
      have hD2 : Srt (D.drop u) := List.Pairwise.sublist (List.drop_sublist _ _) hD
      have hB1s : Srt (B.take (h - u)) := List.Pairwise.sublist (List.take_sublist _ _) hB
      have hB2 : Srt (B.drop (h - u)) := List.Pairwise.sublist (List.drop_sublist _ _) hB
      have hD12 : D = D.take u ++ D.drop u := (List.take_append_drop _ _).symm
      have hB12 : B = B.take (h - u) ++ B.drop (h - u) := (List.take_append_drop _ _).symm
      have hL : X ++ (D ++ B) ++ Y = X ++ (D.take u ++ (D.drop u ++ (B.take (h - u) ++ (B.drop (h - u) ++ Y)))) := by
        conv => lhs; rw [hD12, hB12]
        simp only [List.append_assoc]
      rw [hL] at hH
      refine ev0 [0, 0, 0, 0] tab hF hH rfl (by first | exact trivial | (simp only [All, inK_i64, inK_u64, inK_u32, inK_u8, inK_i32, max_i64, max_u64, IntKind.bits, Int.reduceToNat, Int.reduceAdd, Nat.reducePow, Int.reducePow, and_true, true_and, and_self] <;> omega)) ?_
      intro A w hF hH
      simp only [hend] at hF
      refine wpList_nil ?_
      refine wp_seq ?_
      refine wp_seq ?_
      refine wp_region_lit ?_
      by_cases hr1 : u < D.length
      · by_cases hr2 : 0 < h - u
        · skip
          refine ev0 [0, 0, 1, 0, 0, 0, 1, 0] tab hF hH rfl (by first | exact trivial | (simp only [All, inK_i64, inK_u64, inK_u32, inK_u8, inK_i32, max_i64, max_u64, IntKind.bits, Int.reduceToNat, Int.reduceAdd, Nat.reducePow, Int.reducePow, and_true, true_and, and_self] <;> omega)) ?_
          intro A w hF hH
          refine wpList_nil ?_
          refine cond_t hF rfl rfl ?_
          refine wp_region_lit ?_
          refine ev0 [0, 0, 0, 0, 0] tab hF hH rfl (by first | exact trivial | (simp only [All, inK_i64, inK_u64, inK_u32, inK_u8, inK_i32, max_i64, max_u64, IntKind.bits, Int.reduceToNat, Int.reduceAdd, Nat.reducePow, Int.reducePow, and_true, true_and, and_self] <;> omega)) ?_
          intro A w hF hH
          refine list_act hF rfl ?_
          refine op_call hF rfl rfl rfl rfl rfl rfl isF86 (rotate_calls (F := .func (.func 37) #[] #[]) (X ++ D.take u) (D.drop u) (B.take (h - u)) (B.drop (h - u) ++ Y) junk (a := a + u) (m := m) (c := m + (h - u)) (len := len) (by rw [List.length_append, List.length_take]; omega) (by rw [List.length_append, List.length_take, List.length_drop]; omega) (by rw [List.length_append, List.length_take, List.length_drop, List.length_take]; omega) (by rw [List.length_drop]; omega) (by rw [List.length_take]; omega) (by simp only [List.length_append, List.length_drop, List.length_take]; omega) hcap hl (by simpa only [List.append_assoc] using hH)) ?_
          rintro e w ⟨rfl, hH⟩
          refine ⟨_, rfl, fun A hF => ?_⟩
          refine wpList_nil ?_
          refine wp_seq ?_
          refine wp_seq ?_
          refine wp_region_lit ?_
          have hH : Hp κ w (row b ((X ++ (D.take u ++ (B.take (h - u) ++ (D.drop u ++ (B.drop (h - u) ++ Y))))).flatMap jenc ++ junk) 40 :: C) := by simpa only [List.append_assoc] using hH
          by_cases hu0 : 0 < u
          · by_cases hv0 : u < h
            · skip
              refine ev0 [0, 0, 1, 0, 0, 0, 1, 0] tab hF hH rfl (by first | exact trivial | (simp only [All, inK_i64, inK_u64, inK_u32, inK_u8, inK_i32, max_i64, max_u64, IntKind.bits, Int.reduceToNat, Int.reduceAdd, Nat.reducePow, Int.reducePow, and_true, true_and, and_self] <;> omega)) ?_
              intro A w hF hH
              refine wpList_nil ?_
              refine cond_t hF rfl rfl ?_
              refine wp_region_lit ?_
              refine ev0 [0, 0, 0, 0, 0] tab hF hH rfl (by first | exact trivial | (simp only [All, inK_i64, inK_u64, inK_u32, inK_u8, inK_i32, max_i64, max_u64, IntKind.bits, Int.reduceToNat, Int.reduceAdd, Nat.reducePow, Int.reducePow, and_true, true_and, and_self] <;> omega)) ?_
              intro A w hF hH
              refine list_act hF rfl ?_
              refine op_call hF rfl rfl rfl rfl rfl rfl isF81 (ih κ _ C b cap X (D.take u) (B.take (h - u)) (D.drop u ++ (B.drop (h - u) ++ Y)) junk a (a + u) (a + h) len (by rw [List.length_take, List.length_take]; omega) (by rw [List.length_take]; omega) (by rw [List.length_take]; omega) ha (by rw [List.length_take]; omega) (by rw [List.length_take, List.length_take]; omega) hD1s hB1s (by simp only [List.length_append, List.length_drop, List.length_take]; omega) hcap hl (by simpa only [List.append_assoc] using hH)) ?_
              rintro e w ⟨rfl, S1, p1, s1, hH⟩
              refine ⟨_, rfl, fun A hF => ?_⟩
              refine wpList_nil ?_
              refine wp_seq ?_
              refine wp_region_lit ?_
              have hS1l : S1.length = h := by rw [p1.length_eq, List.length_append, List.length_take, List.length_take]; omega
              by_cases hs1 : u < D.length
              · by_cases hs2 : h - u < B.length
                · skip
                  refine ev0 [0, 0, 1, 0, 0, 0, 1, 0] tab hF hH rfl (by first | exact trivial | (simp only [All, inK_i64, inK_u64, inK_u32, inK_u8, inK_i32, max_i64, max_u64, IntKind.bits, Int.reduceToNat, Int.reduceAdd, Nat.reducePow, Int.reducePow, and_true, true_and, and_self] <;> omega)) ?_
                  intro A w hF hH
                  refine wpList_nil ?_
                  refine cond_t hF rfl rfl ?_
                  refine wp_region_lit ?_
                  refine ev0 [0, 0, 0, 0, 0] tab hF hH rfl (by first | exact trivial | (simp only [All, inK_i64, inK_u64, inK_u32, inK_u8, inK_i32, max_i64, max_u64, IntKind.bits, Int.reduceToNat, Int.reduceAdd, Nat.reducePow, Int.reducePow, and_true, true_and, and_self] <;> omega)) ?_
                  intro A w hF hH
                  refine list_act hF rfl ?_
                  refine op_call hF rfl rfl rfl rfl rfl rfl isF81 (ih κ _ C b cap (X ++ S1) (D.drop u) (B.drop (h - u)) Y junk (a + h) (m + (h - u)) c len (by rw [List.length_drop, List.length_drop]; omega) (by rw [List.length_drop]; omega) (by rw [List.length_drop]; omega) (by rw [List.length_append, hS1l]; omega) (by rw [List.length_append, hS1l, List.length_drop]; omega) (by rw [List.length_append, hS1l, List.length_drop, List.length_drop]; omega) hD2 hB2 (by simp only [List.length_append, List.length_drop, hS1l]; omega) hcap hl (by simpa only [List.append_assoc] using hH)) ?_
                  rintro e w ⟨rfl, S2, p2, s2, hH⟩
                  refine ⟨_, rfl, fun A hF => ?_⟩
                  refine wpList_nil ?_
                  refine fin (M := []) (hs := []) tab hF hH rfl (by first | exact trivial | (simp only [All, inK_i64, inK_u64, inK_u32, inK_u8, inK_i32, max_i64, max_u64, IntKind.bits, Int.reduceToNat, Int.reduceAdd, Nat.reducePow, Int.reducePow, and_true, true_and, and_self] <;> omega)) ?_
                  obtain ⟨q1, q2⟩ := merge_join p1 p2 s1 s2 hcross
                  rw [List.take_append_drop, List.take_append_drop] at q1
                  exact ⟨rfl, _, q1, q2, by simpa only [List.append_assoc] using hH⟩
                · skip
                  refine ev0 [0, 0, 1, 0, 0, 0, 2, 0] tab hF hH rfl (by first | exact trivial | (simp only [All, inK_i64, inK_u64, inK_u32, inK_u8, inK_i32, max_i64, max_u64, IntKind.bits, Int.reduceToNat, Int.reduceAdd, Nat.reducePow, Int.reducePow, and_true, true_and, and_self] <;> omega)) ?_
                  intro A w hF hH
                  refine wpList_nil ?_
                  refine cond_f hF rfl rfl ?_
                  refine wp_skip ?_
                  refine fin (M := []) (hs := []) tab hF hH rfl (by first | exact trivial | (simp only [All, inK_i64, inK_u64, inK_u32, inK_u8, inK_i32, max_i64, max_u64, IntKind.bits, Int.reduceToNat, Int.reduceAdd, Nat.reducePow, Int.reducePow, and_true, true_and, and_self] <;> omega)) ?_
                  have hB20 : B.drop (h - u) = [] := List.drop_eq_nil_of_le (by omega)
                  rw [hB20] at hcross hH
                  obtain ⟨q1, q2⟩ := merge_join p1 (List.Perm.refl (D.drop u ++ [])) s1 (by rw [List.append_nil]; exact hD2) hcross
                  have hj : (D.take u ++ D.drop u) ++ (B.take (h - u) ++ []) = D ++ B := by rw [← hB20, List.take_append_drop, List.take_append_drop]
                  rw [hj] at q1
                  exact ⟨rfl, _, q1, q2, by simpa only [List.append_assoc] using hH⟩
              · skip
                refine ev0 [0, 0, 2, 0, 0, 0, 0, 0] tab hF hH rfl (by first | exact trivial | (simp only [All, inK_i64, inK_u64, inK_u32, inK_u8, inK_i32, max_i64, max_u64, IntKind.bits, Int.reduceToNat, Int.reduceAdd, Nat.reducePow, Int.reducePow, and_true, true_and, and_self] <;> omega)) ?_
                intro A w hF hH
                refine wpList_nil ?_
                refine cond_f hF rfl rfl ?_
                refine wp_skip ?_
                refine fin (M := []) (hs := []) tab hF hH rfl (by first | exact trivial | (simp only [All, inK_i64, inK_u64, inK_u32, inK_u8, inK_i32, max_i64, max_u64, IntKind.bits, Int.reduceToNat, Int.reduceAdd, Nat.reducePow, Int.reducePow, and_true, true_and, and_self] <;> omega)) ?_
                have hD20 : D.drop u = [] := List.drop_eq_nil_of_le (by omega)
                rw [hD20] at hcross hH
                obtain ⟨q1, q2⟩ := merge_join p1 (List.Perm.refl ([] ++ B.drop (h - u))) s1 (by rw [List.nil_append]; exact hB2) hcross
                have hj : (D.take u ++ []) ++ (B.take (h - u) ++ B.drop (h - u)) = D ++ B := by rw [← hD20, List.take_append_drop, List.take_append_drop]
                rw [hj] at q1
                exact ⟨rfl, _, q1, q2, by simpa only [List.append_assoc] using hH⟩
            · skip
              refine ev0 [0, 0, 1, 0, 0, 0, 2, 0] tab hF hH rfl (by first | exact trivial | (simp only [All, inK_i64, inK_u64, inK_u32, inK_u8, inK_i32, max_i64, max_u64, IntKind.bits, Int.reduceToNat, Int.reduceAdd, Nat.reducePow, Int.reducePow, and_true, true_and, and_self] <;> omega)) ?_
              intro A w hF hH
              refine wpList_nil ?_
              refine cond_f hF rfl rfl ?_
              refine wp_skip ?_
              refine wp_seq ?_
              refine wp_region_lit ?_
              have hB10 : B.take (h - u) = [] := by rw [show h - u = 0 from by omega]; rfl
              obtain ⟨S1, hS1⟩ : ∃ S1, S1 = D.take u ++ B.take (h - u) := ⟨_, rfl⟩
              have p1 : S1.Perm (D.take u ++ B.take (h - u)) := by rw [hS1]
              have s1 : Srt S1 := by rw [hS1, hB10, List.append_nil]; exact hD1s
              have hS1l : S1.length = h := by rw [p1.length_eq, List.length_append, List.length_take, List.length_take]; omega
              rw [← List.append_assoc (D.take u), ← hS1] at hH
              by_cases hs1 : u < D.length
              · by_cases hs2 : h - u < B.length
                · skip
                  refine ev0 [0, 0, 1, 0, 0, 0, 1, 0] tab hF hH rfl (by first | exact trivial | (simp only [All, inK_i64, inK_u64, inK_u32, inK_u8, inK_i32, max_i64, max_u64, IntKind.bits, Int.reduceToNat, Int.reduceAdd, Nat.reducePow, Int.reducePow, and_true, true_and, and_self] <;> omega)) ?_
                  intro A w hF hH
                  refine wpList_nil ?_
                  refine cond_t hF rfl rfl ?_
                  refine wp_region_lit ?_
                  refine ev0 [0, 0, 0, 0, 0] tab hF hH rfl (by first | exact trivial | (simp only [All, inK_i64, inK_u64, inK_u32, inK_u8, inK_i32, max_i64, max_u64, IntKind.bits, Int.reduceToNat, Int.reduceAdd, Nat.reducePow, Int.reducePow, and_true, true_and, and_self] <;> omega)) ?_
                  intro A w hF hH
                  refine list_act hF rfl ?_
                  refine op_call hF rfl rfl rfl rfl rfl rfl isF81 (ih κ _ C b cap (X ++ S1) (D.drop u) (B.drop (h - u)) Y junk (a + h) (m + (h - u)) c len (by rw [List.length_drop, List.length_drop]; omega) (by rw [List.length_drop]; omega) (by rw [List.length_drop]; omega) (by rw [List.length_append, hS1l]; omega) (by rw [List.length_append, hS1l, List.length_drop]; omega) (by rw [List.length_append, hS1l, List.length_drop, List.length_drop]; omega) hD2 hB2 (by simp only [List.length_append, List.length_drop, hS1l]; omega) hcap hl (by simpa only [List.append_assoc] using hH)) ?_
                  rintro e w ⟨rfl, S2, p2, s2, hH⟩
                  refine ⟨_, rfl, fun A hF => ?_⟩
                  refine wpList_nil ?_
                  refine fin (M := []) (hs := []) tab hF hH rfl (by first | exact trivial | (simp only [All, inK_i64, inK_u64, inK_u32, inK_u8, inK_i32, max_i64, max_u64, IntKind.bits, Int.reduceToNat, Int.reduceAdd, Nat.reducePow, Int.reducePow, and_true, true_and, and_self] <;> omega)) ?_
                  obtain ⟨q1, q2⟩ := merge_join p1 p2 s1 s2 hcross
                  rw [List.take_append_drop, List.take_append_drop] at q1
                  exact ⟨rfl, _, q1, q2, by simpa only [List.append_assoc] using hH⟩
                · skip
                  refine ev0 [0, 0, 1, 0, 0, 0, 2, 0] tab hF hH rfl (by first | exact trivial | (simp only [All, inK_i64, inK_u64, inK_u32, inK_u8, inK_i32, max_i64, max_u64, IntKind.bits, Int.reduceToNat, Int.reduceAdd, Nat.reducePow, Int.reducePow, and_true, true_and, and_self] <;> omega)) ?_
                  intro A w hF hH
                  refine wpList_nil ?_
                  refine cond_f hF rfl rfl ?_
                  refine wp_skip ?_
                  refine fin (M := []) (hs := []) tab hF hH rfl (by first | exact trivial | (simp only [All, inK_i64, inK_u64, inK_u32, inK_u8, inK_i32, max_i64, max_u64, IntKind.bits, Int.reduceToNat, Int.reduceAdd, Nat.reducePow, Int.reducePow, and_true, true_and, and_self] <;> omega)) ?_
                  have hB20 : B.drop (h - u) = [] := List.drop_eq_nil_of_le (by omega)
                  rw [hB20] at hcross hH
                  obtain ⟨q1, q2⟩ := merge_join p1 (List.Perm.refl (D.drop u ++ [])) s1 (by rw [List.append_nil]; exact hD2) hcross
                  have hj : (D.take u ++ D.drop u) ++ (B.take (h - u) ++ []) = D ++ B := by rw [← hB20, List.take_append_drop, List.take_append_drop]
                  rw [hj] at q1
                  exact ⟨rfl, _, q1, q2, by simpa only [List.append_assoc] using hH⟩
              · skip
                refine ev0 [0, 0, 2, 0, 0, 0, 0, 0] tab hF hH rfl (by first | exact trivial | (simp only [All, inK_i64, inK_u64, inK_u32, inK_u8, inK_i32, max_i64, max_u64, IntKind.bits, Int.reduceToNat, Int.reduceAdd, Nat.reducePow, Int.reducePow, and_true, true_and, and_self] <;> omega)) ?_
                intro A w hF hH
                refine wpList_nil ?_
                refine cond_f hF rfl rfl ?_
                refine wp_skip ?_
                refine fin (M := []) (hs := []) tab hF hH rfl (by first | exact trivial | (simp only [All, inK_i64, inK_u64, inK_u32, inK_u8, inK_i32, max_i64, max_u64, IntKind.bits, Int.reduceToNat, Int.reduceAdd, Nat.reducePow, Int.reducePow, and_true, true_and, and_self] <;> omega)) ?_
                have hD20 : D.drop u = [] := List.drop_eq_nil_of_le (by omega)
                rw [hD20] at hcross hH
                obtain ⟨q1, q2⟩ := merge_join p1 (List.Perm.refl ([] ++ B.drop (h - u))) s1 (by rw [List.nil_append]; exact hB2) hcross
                have hj : (D.take u ++ []) ++ (B.take (h - u) ++ B.drop (h - u)) = D ++ B := by rw [← hD20, List.take_append_drop, List.take_append_drop]
                rw [hj] at q1
                exact ⟨rfl, _, q1, q2, by simpa only [List.append_assoc] using hH⟩
          · skip
            refine ev0 [0, 0, 2, 0, 0, 0, 0, 0] tab hF hH rfl (by first | exact trivial | (simp only [All, inK_i64, inK_u64, inK_u32, inK_u8, inK_i32, max_i64, max_u64, IntKind.bits, Int.reduceToNat, Int.reduceAdd, Nat.reducePow, Int.reducePow, and_true, true_and, and_self] <;> omega)) ?_
            intro A w hF hH
            refine wpList_nil ?_
            refine cond_f hF rfl rfl ?_
            refine wp_skip ?_
            refine wp_seq ?_
            refine wp_region_lit ?_
            have hD10 : D.take u = [] := by rw [show u = 0 from by omega]; rfl
            obtain ⟨S1, hS1⟩ : ∃ S1, S1 = D.take u ++ B.take (h - u) := ⟨_, rfl⟩
            have p1 : S1.Perm (D.take u ++ B.take (h - u)) := by rw [hS1]
            have s1 : Srt S1 := by rw [hS1, hD10, List.nil_append]; exact hB1s
            have hS1l : S1.length = h := by rw [p1.length_eq, List.length_append, List.length_take, List.length_take]; omega
            rw [← List.append_assoc (D.take u), ← hS1] at hH
            by_cases hs1 : u < D.length
            · by_cases hs2 : h - u < B.length
              · skip
                refine ev0 [0, 0, 1, 0, 0, 0, 1, 0] tab hF hH rfl (by first | exact trivial | (simp only [All, inK_i64, inK_u64, inK_u32, inK_u8, inK_i32, max_i64, max_u64, IntKind.bits, Int.reduceToNat, Int.reduceAdd, Nat.reducePow, Int.reducePow, and_true, true_and, and_self] <;> omega)) ?_
                intro A w hF hH
                refine wpList_nil ?_
                refine cond_t hF rfl rfl ?_
                refine wp_region_lit ?_
                refine ev0 [0, 0, 0, 0, 0] tab hF hH rfl (by first | exact trivial | (simp only [All, inK_i64, inK_u64, inK_u32, inK_u8, inK_i32, max_i64, max_u64, IntKind.bits, Int.reduceToNat, Int.reduceAdd, Nat.reducePow, Int.reducePow, and_true, true_and, and_self] <;> omega)) ?_
                intro A w hF hH
                refine list_act hF rfl ?_
                refine op_call hF rfl rfl rfl rfl rfl rfl isF81 (ih κ _ C b cap (X ++ S1) (D.drop u) (B.drop (h - u)) Y junk (a + h) (m + (h - u)) c len (by rw [List.length_drop, List.length_drop]; omega) (by rw [List.length_drop]; omega) (by rw [List.length_drop]; omega) (by rw [List.length_append, hS1l]; omega) (by rw [List.length_append, hS1l, List.length_drop]; omega) (by rw [List.length_append, hS1l, List.length_drop, List.length_drop]; omega) hD2 hB2 (by simp only [List.length_append, List.length_drop, hS1l]; omega) hcap hl (by simpa only [List.append_assoc] using hH)) ?_
                rintro e w ⟨rfl, S2, p2, s2, hH⟩
                refine ⟨_, rfl, fun A hF => ?_⟩
                refine wpList_nil ?_
                refine fin (M := []) (hs := []) tab hF hH rfl (by first | exact trivial | (simp only [All, inK_i64, inK_u64, inK_u32, inK_u8, inK_i32, max_i64, max_u64, IntKind.bits, Int.reduceToNat, Int.reduceAdd, Nat.reducePow, Int.reducePow, and_true, true_and, and_self] <;> omega)) ?_
                obtain ⟨q1, q2⟩ := merge_join p1 p2 s1 s2 hcross
                rw [List.take_append_drop, List.take_append_drop] at q1
                exact ⟨rfl, _, q1, q2, by simpa only [List.append_assoc] using hH⟩
              · skip
                refine ev0 [0, 0, 1, 0, 0, 0, 2, 0] tab hF hH rfl (by first | exact trivial | (simp only [All, inK_i64, inK_u64, inK_u32, inK_u8, inK_i32, max_i64, max_u64, IntKind.bits, Int.reduceToNat, Int.reduceAdd, Nat.reducePow, Int.reducePow, and_true, true_and, and_self] <;> omega)) ?_
                intro A w hF hH
                refine wpList_nil ?_
                refine cond_f hF rfl rfl ?_
                refine wp_skip ?_
                refine fin (M := []) (hs := []) tab hF hH rfl (by first | exact trivial | (simp only [All, inK_i64, inK_u64, inK_u32, inK_u8, inK_i32, max_i64, max_u64, IntKind.bits, Int.reduceToNat, Int.reduceAdd, Nat.reducePow, Int.reducePow, and_true, true_and, and_self] <;> omega)) ?_
                have hB20 : B.drop (h - u) = [] := List.drop_eq_nil_of_le (by omega)
                rw [hB20] at hcross hH
                obtain ⟨q1, q2⟩ := merge_join p1 (List.Perm.refl (D.drop u ++ [])) s1 (by rw [List.append_nil]; exact hD2) hcross
                have hj : (D.take u ++ D.drop u) ++ (B.take (h - u) ++ []) = D ++ B := by rw [← hB20, List.take_append_drop, List.take_append_drop]
                rw [hj] at q1
                exact ⟨rfl, _, q1, q2, by simpa only [List.append_assoc] using hH⟩
            · skip
              refine ev0 [0, 0, 2, 0, 0, 0, 0, 0] tab hF hH rfl (by first | exact trivial | (simp only [All, inK_i64, inK_u64, inK_u32, inK_u8, inK_i32, max_i64, max_u64, IntKind.bits, Int.reduceToNat, Int.reduceAdd, Nat.reducePow, Int.reducePow, and_true, true_and, and_self] <;> omega)) ?_
              intro A w hF hH
              refine wpList_nil ?_
              refine cond_f hF rfl rfl ?_
              refine wp_skip ?_
              refine fin (M := []) (hs := []) tab hF hH rfl (by first | exact trivial | (simp only [All, inK_i64, inK_u64, inK_u32, inK_u8, inK_i32, max_i64, max_u64, IntKind.bits, Int.reduceToNat, Int.reduceAdd, Nat.reducePow, Int.reducePow, and_true, true_and, and_self] <;> omega)) ?_
              have hD20 : D.drop u = [] := List.drop_eq_nil_of_le (by omega)
              rw [hD20] at hcross hH
              obtain ⟨q1, q2⟩ := merge_join p1 (List.Perm.refl ([] ++ B.drop (h - u))) s1 (by rw [List.nil_append]; exact hB2) hcross
              have hj : (D.take u ++ []) ++ (B.take (h - u) ++ B.drop (h - u)) = D ++ B := by rw [← hD20, List.take_append_drop, List.take_append_drop]
              rw [hj] at q1
              exact ⟨rfl, _, q1, q2, by simpa only [List.append_assoc] using hH⟩
        · skip
          refine ev0 [0, 0, 1, 0, 0, 0, 2, 0] tab hF hH rfl (by first | exact trivial | (simp only [All, inK_i64, inK_u64, inK_u32, inK_u8, inK_i32, max_i64, max_u64, IntKind.bits, Int.reduceToNat, Int.reduceAdd, Nat.reducePow, Int.reducePow, and_true, true_and, and_self] <;> omega)) ?_
          intro A w hF hH
          refine wpList_nil ?_
          refine cond_f hF rfl rfl ?_
          refine wp_skip ?_
          refine wp_seq ?_
          refine wp_seq ?_
          refine wp_region_lit ?_
          have hB0 : B.take (h - u) = [] := by rw [show h - u = 0 from by omega]; rfl
          have hH : Hp κ w (row b ((X ++ (D.take u ++ (B.take (h - u) ++ (D.drop u ++ (B.drop (h - u) ++ Y))))).flatMap jenc ++ junk) 40 :: C) := by rw [hB0] at hH ⊢; exact hH
          by_cases hu0 : 0 < u
          · by_cases hv0 : u < h
            · skip
              refine ev0 [0, 0, 1, 0, 0, 0, 1, 0] tab hF hH rfl (by first | exact trivial | (simp only [All, inK_i64, inK_u64, inK_u32, inK_u8, inK_i32, max_i64, max_u64, IntKind.bits, Int.reduceToNat, Int.reduceAdd, Nat.reducePow, Int.reducePow, and_true, true_and, and_self] <;> omega)) ?_
              intro A w hF hH
              refine wpList_nil ?_
              refine cond_t hF rfl rfl ?_
              refine wp_region_lit ?_
              refine ev0 [0, 0, 0, 0, 0] tab hF hH rfl (by first | exact trivial | (simp only [All, inK_i64, inK_u64, inK_u32, inK_u8, inK_i32, max_i64, max_u64, IntKind.bits, Int.reduceToNat, Int.reduceAdd, Nat.reducePow, Int.reducePow, and_true, true_and, and_self] <;> omega)) ?_
              intro A w hF hH
              refine list_act hF rfl ?_
              refine op_call hF rfl rfl rfl rfl rfl rfl isF81 (ih κ _ C b cap X (D.take u) (B.take (h - u)) (D.drop u ++ (B.drop (h - u) ++ Y)) junk a (a + u) (a + h) len (by rw [List.length_take, List.length_take]; omega) (by rw [List.length_take]; omega) (by rw [List.length_take]; omega) ha (by rw [List.length_take]; omega) (by rw [List.length_take, List.length_take]; omega) hD1s hB1s (by simp only [List.length_append, List.length_drop, List.length_take]; omega) hcap hl (by simpa only [List.append_assoc] using hH)) ?_
              rintro e w ⟨rfl, S1, p1, s1, hH⟩
              refine ⟨_, rfl, fun A hF => ?_⟩
              refine wpList_nil ?_
              refine wp_seq ?_
              refine wp_region_lit ?_
              have hS1l : S1.length = h := by rw [p1.length_eq, List.length_append, List.length_take, List.length_take]; omega
              by_cases hs1 : u < D.length
              · by_cases hs2 : h - u < B.length
                · skip
                  refine ev0 [0, 0, 1, 0, 0, 0, 1, 0] tab hF hH rfl (by first | exact trivial | (simp only [All, inK_i64, inK_u64, inK_u32, inK_u8, inK_i32, max_i64, max_u64, IntKind.bits, Int.reduceToNat, Int.reduceAdd, Nat.reducePow, Int.reducePow, and_true, true_and, and_self] <;> omega)) ?_
                  intro A w hF hH
                  refine wpList_nil ?_
                  refine cond_t hF rfl rfl ?_
                  refine wp_region_lit ?_
                  refine ev0 [0, 0, 0, 0, 0] tab hF hH rfl (by first | exact trivial | (simp only [All, inK_i64, inK_u64, inK_u32, inK_u8, inK_i32, max_i64, max_u64, IntKind.bits, Int.reduceToNat, Int.reduceAdd, Nat.reducePow, Int.reducePow, and_true, true_and, and_self] <;> omega)) ?_
                  intro A w hF hH
                  refine list_act hF rfl ?_
                  refine op_call hF rfl rfl rfl rfl rfl rfl isF81 (ih κ _ C b cap (X ++ S1) (D.drop u) (B.drop (h - u)) Y junk (a + h) (m + (h - u)) c len (by rw [List.length_drop, List.length_drop]; omega) (by rw [List.length_drop]; omega) (by rw [List.length_drop]; omega) (by rw [List.length_append, hS1l]; omega) (by rw [List.length_append, hS1l, List.length_drop]; omega) (by rw [List.length_append, hS1l, List.length_drop, List.length_drop]; omega) hD2 hB2 (by simp only [List.length_append, List.length_drop, hS1l]; omega) hcap hl (by simpa only [List.append_assoc] using hH)) ?_
                  rintro e w ⟨rfl, S2, p2, s2, hH⟩
                  refine ⟨_, rfl, fun A hF => ?_⟩
                  refine wpList_nil ?_
                  refine fin (M := []) (hs := []) tab hF hH rfl (by first | exact trivial | (simp only [All, inK_i64, inK_u64, inK_u32, inK_u8, inK_i32, max_i64, max_u64, IntKind.bits, Int.reduceToNat, Int.reduceAdd, Nat.reducePow, Int.reducePow, and_true, true_and, and_self] <;> omega)) ?_
                  obtain ⟨q1, q2⟩ := merge_join p1 p2 s1 s2 hcross
                  rw [List.take_append_drop, List.take_append_drop] at q1
                  exact ⟨rfl, _, q1, q2, by simpa only [List.append_assoc] using hH⟩
                · skip
                  refine ev0 [0, 0, 1, 0, 0, 0, 2, 0] tab hF hH rfl (by first | exact trivial | (simp only [All, inK_i64, inK_u64, inK_u32, inK_u8, inK_i32, max_i64, max_u64, IntKind.bits, Int.reduceToNat, Int.reduceAdd, Nat.reducePow, Int.reducePow, and_true, true_and, and_self] <;> omega)) ?_
                  intro A w hF hH
                  refine wpList_nil ?_
                  refine cond_f hF rfl rfl ?_
                  refine wp_skip ?_
                  refine fin (M := []) (hs := []) tab hF hH rfl (by first | exact trivial | (simp only [All, inK_i64, inK_u64, inK_u32, inK_u8, inK_i32, max_i64, max_u64, IntKind.bits, Int.reduceToNat, Int.reduceAdd, Nat.reducePow, Int.reducePow, and_true, true_and, and_self] <;> omega)) ?_
                  have hB20 : B.drop (h - u) = [] := List.drop_eq_nil_of_le (by omega)
                  rw [hB20] at hcross hH
                  obtain ⟨q1, q2⟩ := merge_join p1 (List.Perm.refl (D.drop u ++ [])) s1 (by rw [List.append_nil]; exact hD2) hcross
                  have hj : (D.take u ++ D.drop u) ++ (B.take (h - u) ++ []) = D ++ B := by rw [← hB20, List.take_append_drop, List.take_append_drop]
                  rw [hj] at q1
                  exact ⟨rfl, _, q1, q2, by simpa only [List.append_assoc] using hH⟩
              · skip
                refine ev0 [0, 0, 2, 0, 0, 0, 0, 0] tab hF hH rfl (by first | exact trivial | (simp only [All, inK_i64, inK_u64, inK_u32, inK_u8, inK_i32, max_i64, max_u64, IntKind.bits, Int.reduceToNat, Int.reduceAdd, Nat.reducePow, Int.reducePow, and_true, true_and, and_self] <;> omega)) ?_
                intro A w hF hH
                refine wpList_nil ?_
                refine cond_f hF rfl rfl ?_
                refine wp_skip ?_
                refine fin (M := []) (hs := []) tab hF hH rfl (by first | exact trivial | (simp only [All, inK_i64, inK_u64, inK_u32, inK_u8, inK_i32, max_i64, max_u64, IntKind.bits, Int.reduceToNat, Int.reduceAdd, Nat.reducePow, Int.reducePow, and_true, true_and, and_self] <;> omega)) ?_
                have hD20 : D.drop u = [] := List.drop_eq_nil_of_le (by omega)
                rw [hD20] at hcross hH
                obtain ⟨q1, q2⟩ := merge_join p1 (List.Perm.refl ([] ++ B.drop (h - u))) s1 (by rw [List.nil_append]; exact hB2) hcross
                have hj : (D.take u ++ []) ++ (B.take (h - u) ++ B.drop (h - u)) = D ++ B := by rw [← hD20, List.take_append_drop, List.take_append_drop]
                rw [hj] at q1
                exact ⟨rfl, _, q1, q2, by simpa only [List.append_assoc] using hH⟩
            · skip
              refine ev0 [0, 0, 1, 0, 0, 0, 2, 0] tab hF hH rfl (by first | exact trivial | (simp only [All, inK_i64, inK_u64, inK_u32, inK_u8, inK_i32, max_i64, max_u64, IntKind.bits, Int.reduceToNat, Int.reduceAdd, Nat.reducePow, Int.reducePow, and_true, true_and, and_self] <;> omega)) ?_
              intro A w hF hH
              refine wpList_nil ?_
              refine cond_f hF rfl rfl ?_
              refine wp_skip ?_
              refine wp_seq ?_
              refine wp_region_lit ?_
              have hB10 : B.take (h - u) = [] := by rw [show h - u = 0 from by omega]; rfl
              obtain ⟨S1, hS1⟩ : ∃ S1, S1 = D.take u ++ B.take (h - u) := ⟨_, rfl⟩
              have p1 : S1.Perm (D.take u ++ B.take (h - u)) := by rw [hS1]
              have s1 : Srt S1 := by rw [hS1, hB10, List.append_nil]; exact hD1s
              have hS1l : S1.length = h := by rw [p1.length_eq, List.length_append, List.length_take, List.length_take]; omega
              rw [← List.append_assoc (D.take u), ← hS1] at hH
              by_cases hs1 : u < D.length
              · by_cases hs2 : h - u < B.length
                · skip
                  refine ev0 [0, 0, 1, 0, 0, 0, 1, 0] tab hF hH rfl (by first | exact trivial | (simp only [All, inK_i64, inK_u64, inK_u32, inK_u8, inK_i32, max_i64, max_u64, IntKind.bits, Int.reduceToNat, Int.reduceAdd, Nat.reducePow, Int.reducePow, and_true, true_and, and_self] <;> omega)) ?_
                  intro A w hF hH
                  refine wpList_nil ?_
                  refine cond_t hF rfl rfl ?_
                  refine wp_region_lit ?_
                  refine ev0 [0, 0, 0, 0, 0] tab hF hH rfl (by first | exact trivial | (simp only [All, inK_i64, inK_u64, inK_u32, inK_u8, inK_i32, max_i64, max_u64, IntKind.bits, Int.reduceToNat, Int.reduceAdd, Nat.reducePow, Int.reducePow, and_true, true_and, and_self] <;> omega)) ?_
                  intro A w hF hH
                  refine list_act hF rfl ?_
                  refine op_call hF rfl rfl rfl rfl rfl rfl isF81 (ih κ _ C b cap (X ++ S1) (D.drop u) (B.drop (h - u)) Y junk (a + h) (m + (h - u)) c len (by rw [List.length_drop, List.length_drop]; omega) (by rw [List.length_drop]; omega) (by rw [List.length_drop]; omega) (by rw [List.length_append, hS1l]; omega) (by rw [List.length_append, hS1l, List.length_drop]; omega) (by rw [List.length_append, hS1l, List.length_drop, List.length_drop]; omega) hD2 hB2 (by simp only [List.length_append, List.length_drop, hS1l]; omega) hcap hl (by simpa only [List.append_assoc] using hH)) ?_
                  rintro e w ⟨rfl, S2, p2, s2, hH⟩
                  refine ⟨_, rfl, fun A hF => ?_⟩
                  refine wpList_nil ?_
                  refine fin (M := []) (hs := []) tab hF hH rfl (by first | exact trivial | (simp only [All, inK_i64, inK_u64, inK_u32, inK_u8, inK_i32, max_i64, max_u64, IntKind.bits, Int.reduceToNat, Int.reduceAdd, Nat.reducePow, Int.reducePow, and_true, true_and, and_self] <;> omega)) ?_
                  obtain ⟨q1, q2⟩ := merge_join p1 p2 s1 s2 hcross
                  rw [List.take_append_drop, List.take_append_drop] at q1
                  exact ⟨rfl, _, q1, q2, by simpa only [List.append_assoc] using hH⟩
                · skip
                  refine ev0 [0, 0, 1, 0, 0, 0, 2, 0] tab hF hH rfl (by first | exact trivial | (simp only [All, inK_i64, inK_u64, inK_u32, inK_u8, inK_i32, max_i64, max_u64, IntKind.bits, Int.reduceToNat, Int.reduceAdd, Nat.reducePow, Int.reducePow, and_true, true_and, and_self] <;> omega)) ?_
                  intro A w hF hH
                  refine wpList_nil ?_
                  refine cond_f hF rfl rfl ?_
                  refine wp_skip ?_
                  refine fin (M := []) (hs := []) tab hF hH rfl (by first | exact trivial | (simp only [All, inK_i64, inK_u64, inK_u32, inK_u8, inK_i32, max_i64, max_u64, IntKind.bits, Int.reduceToNat, Int.reduceAdd, Nat.reducePow, Int.reducePow, and_true, true_and, and_self] <;> omega)) ?_
                  have hB20 : B.drop (h - u) = [] := List.drop_eq_nil_of_le (by omega)
                  rw [hB20] at hcross hH
                  obtain ⟨q1, q2⟩ := merge_join p1 (List.Perm.refl (D.drop u ++ [])) s1 (by rw [List.append_nil]; exact hD2) hcross
                  have hj : (D.take u ++ D.drop u) ++ (B.take (h - u) ++ []) = D ++ B := by rw [← hB20, List.take_append_drop, List.take_append_drop]
                  rw [hj] at q1
                  exact ⟨rfl, _, q1, q2, by simpa only [List.append_assoc] using hH⟩
              · skip
                refine ev0 [0, 0, 2, 0, 0, 0, 0, 0] tab hF hH rfl (by first | exact trivial | (simp only [All, inK_i64, inK_u64, inK_u32, inK_u8, inK_i32, max_i64, max_u64, IntKind.bits, Int.reduceToNat, Int.reduceAdd, Nat.reducePow, Int.reducePow, and_true, true_and, and_self] <;> omega)) ?_
                intro A w hF hH
                refine wpList_nil ?_
                refine cond_f hF rfl rfl ?_
                refine wp_skip ?_
                refine fin (M := []) (hs := []) tab hF hH rfl (by first | exact trivial | (simp only [All, inK_i64, inK_u64, inK_u32, inK_u8, inK_i32, max_i64, max_u64, IntKind.bits, Int.reduceToNat, Int.reduceAdd, Nat.reducePow, Int.reducePow, and_true, true_and, and_self] <;> omega)) ?_
                have hD20 : D.drop u = [] := List.drop_eq_nil_of_le (by omega)
                rw [hD20] at hcross hH
                obtain ⟨q1, q2⟩ := merge_join p1 (List.Perm.refl ([] ++ B.drop (h - u))) s1 (by rw [List.nil_append]; exact hB2) hcross
                have hj : (D.take u ++ []) ++ (B.take (h - u) ++ B.drop (h - u)) = D ++ B := by rw [← hD20, List.take_append_drop, List.take_append_drop]
                rw [hj] at q1
                exact ⟨rfl, _, q1, q2, by simpa only [List.append_assoc] using hH⟩
          · skip
            refine ev0 [0, 0, 2, 0, 0, 0, 0, 0] tab hF hH rfl (by first | exact trivial | (simp only [All, inK_i64, inK_u64, inK_u32, inK_u8, inK_i32, max_i64, max_u64, IntKind.bits, Int.reduceToNat, Int.reduceAdd, Nat.reducePow, Int.reducePow, and_true, true_and, and_self] <;> omega)) ?_
            intro A w hF hH
            refine wpList_nil ?_
            refine cond_f hF rfl rfl ?_
            refine wp_skip ?_
            refine wp_seq ?_
            refine wp_region_lit ?_
            have hD10 : D.take u = [] := by rw [show u = 0 from by omega]; rfl
            obtain ⟨S1, hS1⟩ : ∃ S1, S1 = D.take u ++ B.take (h - u) := ⟨_, rfl⟩
            have p1 : S1.Perm (D.take u ++ B.take (h - u)) := by rw [hS1]
            have s1 : Srt S1 := by rw [hS1, hD10, List.nil_append]; exact hB1s
            have hS1l : S1.length = h := by rw [p1.length_eq, List.length_append, List.length_take, List.length_take]; omega
            rw [← List.append_assoc (D.take u), ← hS1] at hH
            by_cases hs1 : u < D.length
            · by_cases hs2 : h - u < B.length
              · skip
                refine ev0 [0, 0, 1, 0, 0, 0, 1, 0] tab hF hH rfl (by first | exact trivial | (simp only [All, inK_i64, inK_u64, inK_u32, inK_u8, inK_i32, max_i64, max_u64, IntKind.bits, Int.reduceToNat, Int.reduceAdd, Nat.reducePow, Int.reducePow, and_true, true_and, and_self] <;> omega)) ?_
                intro A w hF hH
                refine wpList_nil ?_
                refine cond_t hF rfl rfl ?_
                refine wp_region_lit ?_
                refine ev0 [0, 0, 0, 0, 0] tab hF hH rfl (by first | exact trivial | (simp only [All, inK_i64, inK_u64, inK_u32, inK_u8, inK_i32, max_i64, max_u64, IntKind.bits, Int.reduceToNat, Int.reduceAdd, Nat.reducePow, Int.reducePow, and_true, true_and, and_self] <;> omega)) ?_
                intro A w hF hH
                refine list_act hF rfl ?_
                refine op_call hF rfl rfl rfl rfl rfl rfl isF81 (ih κ _ C b cap (X ++ S1) (D.drop u) (B.drop (h - u)) Y junk (a + h) (m + (h - u)) c len (by rw [List.length_drop, List.length_drop]; omega) (by rw [List.length_drop]; omega) (by rw [List.length_drop]; omega) (by rw [List.length_append, hS1l]; omega) (by rw [List.length_append, hS1l, List.length_drop]; omega) (by rw [List.length_append, hS1l, List.length_drop, List.length_drop]; omega) hD2 hB2 (by simp only [List.length_append, List.length_drop, hS1l]; omega) hcap hl (by simpa only [List.append_assoc] using hH)) ?_
                rintro e w ⟨rfl, S2, p2, s2, hH⟩
                refine ⟨_, rfl, fun A hF => ?_⟩
                refine wpList_nil ?_
                refine fin (M := []) (hs := []) tab hF hH rfl (by first | exact trivial | (simp only [All, inK_i64, inK_u64, inK_u32, inK_u8, inK_i32, max_i64, max_u64, IntKind.bits, Int.reduceToNat, Int.reduceAdd, Nat.reducePow, Int.reducePow, and_true, true_and, and_self] <;> omega)) ?_
                obtain ⟨q1, q2⟩ := merge_join p1 p2 s1 s2 hcross
                rw [List.take_append_drop, List.take_append_drop] at q1
                exact ⟨rfl, _, q1, q2, by simpa only [List.append_assoc] using hH⟩
              · skip
                refine ev0 [0, 0, 1, 0, 0, 0, 2, 0] tab hF hH rfl (by first | exact trivial | (simp only [All, inK_i64, inK_u64, inK_u32, inK_u8, inK_i32, max_i64, max_u64, IntKind.bits, Int.reduceToNat, Int.reduceAdd, Nat.reducePow, Int.reducePow, and_true, true_and, and_self] <;> omega)) ?_
                intro A w hF hH
                refine wpList_nil ?_
                refine cond_f hF rfl rfl ?_
                refine wp_skip ?_
                refine fin (M := []) (hs := []) tab hF hH rfl (by first | exact trivial | (simp only [All, inK_i64, inK_u64, inK_u32, inK_u8, inK_i32, max_i64, max_u64, IntKind.bits, Int.reduceToNat, Int.reduceAdd, Nat.reducePow, Int.reducePow, and_true, true_and, and_self] <;> omega)) ?_
                have hB20 : B.drop (h - u) = [] := List.drop_eq_nil_of_le (by omega)
                rw [hB20] at hcross hH
                obtain ⟨q1, q2⟩ := merge_join p1 (List.Perm.refl (D.drop u ++ [])) s1 (by rw [List.append_nil]; exact hD2) hcross
                have hj : (D.take u ++ D.drop u) ++ (B.take (h - u) ++ []) = D ++ B := by rw [← hB20, List.take_append_drop, List.take_append_drop]
                rw [hj] at q1
                exact ⟨rfl, _, q1, q2, by simpa only [List.append_assoc] using hH⟩
            · skip
              refine ev0 [0, 0, 2, 0, 0, 0, 0, 0] tab hF hH rfl (by first | exact trivial | (simp only [All, inK_i64, inK_u64, inK_u32, inK_u8, inK_i32, max_i64, max_u64, IntKind.bits, Int.reduceToNat, Int.reduceAdd, Nat.reducePow, Int.reducePow, and_true, true_and, and_self] <;> omega)) ?_
              intro A w hF hH
              refine wpList_nil ?_
              refine cond_f hF rfl rfl ?_
              refine wp_skip ?_
              refine fin (M := []) (hs := []) tab hF hH rfl (by first | exact trivial | (simp only [All, inK_i64, inK_u64, inK_u32, inK_u8, inK_i32, max_i64, max_u64, IntKind.bits, Int.reduceToNat, Int.reduceAdd, Nat.reducePow, Int.reducePow, and_true, true_and, and_self] <;> omega)) ?_
              have hD20 : D.drop u = [] := List.drop_eq_nil_of_le (by omega)
              rw [hD20] at hcross hH
              obtain ⟨q1, q2⟩ := merge_join p1 (List.Perm.refl ([] ++ B.drop (h - u))) s1 (by rw [List.nil_append]; exact hB2) hcross
              have hj : (D.take u ++ []) ++ (B.take (h - u) ++ B.drop (h - u)) = D ++ B := by rw [← hD20, List.take_append_drop, List.take_append_drop]
              rw [hj] at q1
              exact ⟨rfl, _, q1, q2, by simpa only [List.append_assoc] using hH⟩
      · skip
        refine ev0 [0, 0, 2, 0, 0, 0, 0, 0] tab hF hH rfl (by first | exact trivial | (simp only [All, inK_i64, inK_u64, inK_u32, inK_u8, inK_i32, max_i64, max_u64, IntKind.bits, Int.reduceToNat, Int.reduceAdd, Nat.reducePow, Int.reducePow, and_true, true_and, and_self] <;> omega)) ?_
        intro A w hF hH
        refine wpList_nil ?_
        refine cond_f hF rfl rfl ?_
        refine wp_skip ?_
        refine wp_seq ?_
        refine wp_seq ?_
        refine wp_region_lit ?_
        have hD00 : D.drop u = [] := List.drop_eq_nil_of_le (by omega)
        have hH : Hp κ w (row b ((X ++ (D.take u ++ (B.take (h - u) ++ (D.drop u ++ (B.drop (h - u) ++ Y))))).flatMap jenc ++ junk) 40 :: C) := by rw [hD00] at hH ⊢; exact hH
        by_cases hu0 : 0 < u
        · by_cases hv0 : u < h
          · skip
            refine ev0 [0, 0, 1, 0, 0, 0, 1, 0] tab hF hH rfl (by first | exact trivial | (simp only [All, inK_i64, inK_u64, inK_u32, inK_u8, inK_i32, max_i64, max_u64, IntKind.bits, Int.reduceToNat, Int.reduceAdd, Nat.reducePow, Int.reducePow, and_true, true_and, and_self] <;> omega)) ?_
            intro A w hF hH
            refine wpList_nil ?_
            refine cond_t hF rfl rfl ?_
            refine wp_region_lit ?_
            refine ev0 [0, 0, 0, 0, 0] tab hF hH rfl (by first | exact trivial | (simp only [All, inK_i64, inK_u64, inK_u32, inK_u8, inK_i32, max_i64, max_u64, IntKind.bits, Int.reduceToNat, Int.reduceAdd, Nat.reducePow, Int.reducePow, and_true, true_and, and_self] <;> omega)) ?_
            intro A w hF hH
            refine list_act hF rfl ?_
            refine op_call hF rfl rfl rfl rfl rfl rfl isF81 (ih κ _ C b cap X (D.take u) (B.take (h - u)) (D.drop u ++ (B.drop (h - u) ++ Y)) junk a (a + u) (a + h) len (by rw [List.length_take, List.length_take]; omega) (by rw [List.length_take]; omega) (by rw [List.length_take]; omega) ha (by rw [List.length_take]; omega) (by rw [List.length_take, List.length_take]; omega) hD1s hB1s (by simp only [List.length_append, List.length_drop, List.length_take]; omega) hcap hl (by simpa only [List.append_assoc] using hH)) ?_
            rintro e w ⟨rfl, S1, p1, s1, hH⟩
            refine ⟨_, rfl, fun A hF => ?_⟩
            refine wpList_nil ?_
            refine wp_seq ?_
            refine wp_region_lit ?_
            have hS1l : S1.length = h := by rw [p1.length_eq, List.length_append, List.length_take, List.length_take]; omega
            by_cases hs1 : u < D.length
            · by_cases hs2 : h - u < B.length
              · skip
                refine ev0 [0, 0, 1, 0, 0, 0, 1, 0] tab hF hH rfl (by first | exact trivial | (simp only [All, inK_i64, inK_u64, inK_u32, inK_u8, inK_i32, max_i64, max_u64, IntKind.bits, Int.reduceToNat, Int.reduceAdd, Nat.reducePow, Int.reducePow, and_true, true_and, and_self] <;> omega)) ?_
                intro A w hF hH
                refine wpList_nil ?_
                refine cond_t hF rfl rfl ?_
                refine wp_region_lit ?_
                refine ev0 [0, 0, 0, 0, 0] tab hF hH rfl (by first | exact trivial | (simp only [All, inK_i64, inK_u64, inK_u32, inK_u8, inK_i32, max_i64, max_u64, IntKind.bits, Int.reduceToNat, Int.reduceAdd, Nat.reducePow, Int.reducePow, and_true, true_and, and_self] <;> omega)) ?_
                intro A w hF hH
                refine list_act hF rfl ?_
                refine op_call hF rfl rfl rfl rfl rfl rfl isF81 (ih κ _ C b cap (X ++ S1) (D.drop u) (B.drop (h - u)) Y junk (a + h) (m + (h - u)) c len (by rw [List.length_drop, List.length_drop]; omega) (by rw [List.length_drop]; omega) (by rw [List.length_drop]; omega) (by rw [List.length_append, hS1l]; omega) (by rw [List.length_append, hS1l, List.length_drop]; omega) (by rw [List.length_append, hS1l, List.length_drop, List.length_drop]; omega) hD2 hB2 (by simp only [List.length_append, List.length_drop, hS1l]; omega) hcap hl (by simpa only [List.append_assoc] using hH)) ?_
                rintro e w ⟨rfl, S2, p2, s2, hH⟩
                refine ⟨_, rfl, fun A hF => ?_⟩
                refine wpList_nil ?_
                refine fin (M := []) (hs := []) tab hF hH rfl (by first | exact trivial | (simp only [All, inK_i64, inK_u64, inK_u32, inK_u8, inK_i32, max_i64, max_u64, IntKind.bits, Int.reduceToNat, Int.reduceAdd, Nat.reducePow, Int.reducePow, and_true, true_and, and_self] <;> omega)) ?_
                obtain ⟨q1, q2⟩ := merge_join p1 p2 s1 s2 hcross
                rw [List.take_append_drop, List.take_append_drop] at q1
                exact ⟨rfl, _, q1, q2, by simpa only [List.append_assoc] using hH⟩
              · skip
                refine ev0 [0, 0, 1, 0, 0, 0, 2, 0] tab hF hH rfl (by first | exact trivial | (simp only [All, inK_i64, inK_u64, inK_u32, inK_u8, inK_i32, max_i64, max_u64, IntKind.bits, Int.reduceToNat, Int.reduceAdd, Nat.reducePow, Int.reducePow, and_true, true_and, and_self] <;> omega)) ?_
                intro A w hF hH
                refine wpList_nil ?_
                refine cond_f hF rfl rfl ?_
                refine wp_skip ?_
                refine fin (M := []) (hs := []) tab hF hH rfl (by first | exact trivial | (simp only [All, inK_i64, inK_u64, inK_u32, inK_u8, inK_i32, max_i64, max_u64, IntKind.bits, Int.reduceToNat, Int.reduceAdd, Nat.reducePow, Int.reducePow, and_true, true_and, and_self] <;> omega)) ?_
                have hB20 : B.drop (h - u) = [] := List.drop_eq_nil_of_le (by omega)
                rw [hB20] at hcross hH
                obtain ⟨q1, q2⟩ := merge_join p1 (List.Perm.refl (D.drop u ++ [])) s1 (by rw [List.append_nil]; exact hD2) hcross
                have hj : (D.take u ++ D.drop u) ++ (B.take (h - u) ++ []) = D ++ B := by rw [← hB20, List.take_append_drop, List.take_append_drop]
                rw [hj] at q1
                exact ⟨rfl, _, q1, q2, by simpa only [List.append_assoc] using hH⟩
            · skip
              refine ev0 [0, 0, 2, 0, 0, 0, 0, 0] tab hF hH rfl (by first | exact trivial | (simp only [All, inK_i64, inK_u64, inK_u32, inK_u8, inK_i32, max_i64, max_u64, IntKind.bits, Int.reduceToNat, Int.reduceAdd, Nat.reducePow, Int.reducePow, and_true, true_and, and_self] <;> omega)) ?_
              intro A w hF hH
              refine wpList_nil ?_
              refine cond_f hF rfl rfl ?_
              refine wp_skip ?_
              refine fin (M := []) (hs := []) tab hF hH rfl (by first | exact trivial | (simp only [All, inK_i64, inK_u64, inK_u32, inK_u8, inK_i32, max_i64, max_u64, IntKind.bits, Int.reduceToNat, Int.reduceAdd, Nat.reducePow, Int.reducePow, and_true, true_and, and_self] <;> omega)) ?_
              have hD20 : D.drop u = [] := List.drop_eq_nil_of_le (by omega)
              rw [hD20] at hcross hH
              obtain ⟨q1, q2⟩ := merge_join p1 (List.Perm.refl ([] ++ B.drop (h - u))) s1 (by rw [List.nil_append]; exact hB2) hcross
              have hj : (D.take u ++ []) ++ (B.take (h - u) ++ B.drop (h - u)) = D ++ B := by rw [← hD20, List.take_append_drop, List.take_append_drop]
              rw [hj] at q1
              exact ⟨rfl, _, q1, q2, by simpa only [List.append_assoc] using hH⟩
          · skip
            refine ev0 [0, 0, 1, 0, 0, 0, 2, 0] tab hF hH rfl (by first | exact trivial | (simp only [All, inK_i64, inK_u64, inK_u32, inK_u8, inK_i32, max_i64, max_u64, IntKind.bits, Int.reduceToNat, Int.reduceAdd, Nat.reducePow, Int.reducePow, and_true, true_and, and_self] <;> omega)) ?_
            intro A w hF hH
            refine wpList_nil ?_
            refine cond_f hF rfl rfl ?_
            refine wp_skip ?_
            refine wp_seq ?_
            refine wp_region_lit ?_
            have hB10 : B.take (h - u) = [] := by rw [show h - u = 0 from by omega]; rfl
            obtain ⟨S1, hS1⟩ : ∃ S1, S1 = D.take u ++ B.take (h - u) := ⟨_, rfl⟩
            have p1 : S1.Perm (D.take u ++ B.take (h - u)) := by rw [hS1]
            have s1 : Srt S1 := by rw [hS1, hB10, List.append_nil]; exact hD1s
            have hS1l : S1.length = h := by rw [p1.length_eq, List.length_append, List.length_take, List.length_take]; omega
            rw [← List.append_assoc (D.take u), ← hS1] at hH
            by_cases hs1 : u < D.length
            · by_cases hs2 : h - u < B.length
              · skip
                refine ev0 [0, 0, 1, 0, 0, 0, 1, 0] tab hF hH rfl (by first | exact trivial | (simp only [All, inK_i64, inK_u64, inK_u32, inK_u8, inK_i32, max_i64, max_u64, IntKind.bits, Int.reduceToNat, Int.reduceAdd, Nat.reducePow, Int.reducePow, and_true, true_and, and_self] <;> omega)) ?_
                intro A w hF hH
                refine wpList_nil ?_
                refine cond_t hF rfl rfl ?_
                refine wp_region_lit ?_
                refine ev0 [0, 0, 0, 0, 0] tab hF hH rfl (by first | exact trivial | (simp only [All, inK_i64, inK_u64, inK_u32, inK_u8, inK_i32, max_i64, max_u64, IntKind.bits, Int.reduceToNat, Int.reduceAdd, Nat.reducePow, Int.reducePow, and_true, true_and, and_self] <;> omega)) ?_
                intro A w hF hH
                refine list_act hF rfl ?_
                refine op_call hF rfl rfl rfl rfl rfl rfl isF81 (ih κ _ C b cap (X ++ S1) (D.drop u) (B.drop (h - u)) Y junk (a + h) (m + (h - u)) c len (by rw [List.length_drop, List.length_drop]; omega) (by rw [List.length_drop]; omega) (by rw [List.length_drop]; omega) (by rw [List.length_append, hS1l]; omega) (by rw [List.length_append, hS1l, List.length_drop]; omega) (by rw [List.length_append, hS1l, List.length_drop, List.length_drop]; omega) hD2 hB2 (by simp only [List.length_append, List.length_drop, hS1l]; omega) hcap hl (by simpa only [List.append_assoc] using hH)) ?_
                rintro e w ⟨rfl, S2, p2, s2, hH⟩
                refine ⟨_, rfl, fun A hF => ?_⟩
                refine wpList_nil ?_
                refine fin (M := []) (hs := []) tab hF hH rfl (by first | exact trivial | (simp only [All, inK_i64, inK_u64, inK_u32, inK_u8, inK_i32, max_i64, max_u64, IntKind.bits, Int.reduceToNat, Int.reduceAdd, Nat.reducePow, Int.reducePow, and_true, true_and, and_self] <;> omega)) ?_
                obtain ⟨q1, q2⟩ := merge_join p1 p2 s1 s2 hcross
                rw [List.take_append_drop, List.take_append_drop] at q1
                exact ⟨rfl, _, q1, q2, by simpa only [List.append_assoc] using hH⟩
              · skip
                refine ev0 [0, 0, 1, 0, 0, 0, 2, 0] tab hF hH rfl (by first | exact trivial | (simp only [All, inK_i64, inK_u64, inK_u32, inK_u8, inK_i32, max_i64, max_u64, IntKind.bits, Int.reduceToNat, Int.reduceAdd, Nat.reducePow, Int.reducePow, and_true, true_and, and_self] <;> omega)) ?_
                intro A w hF hH
                refine wpList_nil ?_
                refine cond_f hF rfl rfl ?_
                refine wp_skip ?_
                refine fin (M := []) (hs := []) tab hF hH rfl (by first | exact trivial | (simp only [All, inK_i64, inK_u64, inK_u32, inK_u8, inK_i32, max_i64, max_u64, IntKind.bits, Int.reduceToNat, Int.reduceAdd, Nat.reducePow, Int.reducePow, and_true, true_and, and_self] <;> omega)) ?_
                have hB20 : B.drop (h - u) = [] := List.drop_eq_nil_of_le (by omega)
                rw [hB20] at hcross hH
                obtain ⟨q1, q2⟩ := merge_join p1 (List.Perm.refl (D.drop u ++ [])) s1 (by rw [List.append_nil]; exact hD2) hcross
                have hj : (D.take u ++ D.drop u) ++ (B.take (h - u) ++ []) = D ++ B := by rw [← hB20, List.take_append_drop, List.take_append_drop]
                rw [hj] at q1
                exact ⟨rfl, _, q1, q2, by simpa only [List.append_assoc] using hH⟩
            · skip
              refine ev0 [0, 0, 2, 0, 0, 0, 0, 0] tab hF hH rfl (by first | exact trivial | (simp only [All, inK_i64, inK_u64, inK_u32, inK_u8, inK_i32, max_i64, max_u64, IntKind.bits, Int.reduceToNat, Int.reduceAdd, Nat.reducePow, Int.reducePow, and_true, true_and, and_self] <;> omega)) ?_
              intro A w hF hH
              refine wpList_nil ?_
              refine cond_f hF rfl rfl ?_
              refine wp_skip ?_
              refine fin (M := []) (hs := []) tab hF hH rfl (by first | exact trivial | (simp only [All, inK_i64, inK_u64, inK_u32, inK_u8, inK_i32, max_i64, max_u64, IntKind.bits, Int.reduceToNat, Int.reduceAdd, Nat.reducePow, Int.reducePow, and_true, true_and, and_self] <;> omega)) ?_
              have hD20 : D.drop u = [] := List.drop_eq_nil_of_le (by omega)
              rw [hD20] at hcross hH
              obtain ⟨q1, q2⟩ := merge_join p1 (List.Perm.refl ([] ++ B.drop (h - u))) s1 (by rw [List.nil_append]; exact hB2) hcross
              have hj : (D.take u ++ []) ++ (B.take (h - u) ++ B.drop (h - u)) = D ++ B := by rw [← hD20, List.take_append_drop, List.take_append_drop]
              rw [hj] at q1
              exact ⟨rfl, _, q1, q2, by simpa only [List.append_assoc] using hH⟩
        · skip
          refine ev0 [0, 0, 2, 0, 0, 0, 0, 0] tab hF hH rfl (by first | exact trivial | (simp only [All, inK_i64, inK_u64, inK_u32, inK_u8, inK_i32, max_i64, max_u64, IntKind.bits, Int.reduceToNat, Int.reduceAdd, Nat.reducePow, Int.reducePow, and_true, true_and, and_self] <;> omega)) ?_
          intro A w hF hH
          refine wpList_nil ?_
          refine cond_f hF rfl rfl ?_
          refine wp_skip ?_
          refine wp_seq ?_
          refine wp_region_lit ?_
          have hD10 : D.take u = [] := by rw [show u = 0 from by omega]; rfl
          obtain ⟨S1, hS1⟩ : ∃ S1, S1 = D.take u ++ B.take (h - u) := ⟨_, rfl⟩
          have p1 : S1.Perm (D.take u ++ B.take (h - u)) := by rw [hS1]
          have s1 : Srt S1 := by rw [hS1, hD10, List.nil_append]; exact hB1s
          have hS1l : S1.length = h := by rw [p1.length_eq, List.length_append, List.length_take, List.length_take]; omega
          rw [← List.append_assoc (D.take u), ← hS1] at hH
          by_cases hs1 : u < D.length
          · by_cases hs2 : h - u < B.length
            · skip
              refine ev0 [0, 0, 1, 0, 0, 0, 1, 0] tab hF hH rfl (by first | exact trivial | (simp only [All, inK_i64, inK_u64, inK_u32, inK_u8, inK_i32, max_i64, max_u64, IntKind.bits, Int.reduceToNat, Int.reduceAdd, Nat.reducePow, Int.reducePow, and_true, true_and, and_self] <;> omega)) ?_
              intro A w hF hH
              refine wpList_nil ?_
              refine cond_t hF rfl rfl ?_
              refine wp_region_lit ?_
              refine ev0 [0, 0, 0, 0, 0] tab hF hH rfl (by first | exact trivial | (simp only [All, inK_i64, inK_u64, inK_u32, inK_u8, inK_i32, max_i64, max_u64, IntKind.bits, Int.reduceToNat, Int.reduceAdd, Nat.reducePow, Int.reducePow, and_true, true_and, and_self] <;> omega)) ?_
              intro A w hF hH
              refine list_act hF rfl ?_
              refine op_call hF rfl rfl rfl rfl rfl rfl isF81 (ih κ _ C b cap (X ++ S1) (D.drop u) (B.drop (h - u)) Y junk (a + h) (m + (h - u)) c len (by rw [List.length_drop, List.length_drop]; omega) (by rw [List.length_drop]; omega) (by rw [List.length_drop]; omega) (by rw [List.length_append, hS1l]; omega) (by rw [List.length_append, hS1l, List.length_drop]; omega) (by rw [List.length_append, hS1l, List.length_drop, List.length_drop]; omega) hD2 hB2 (by simp only [List.length_append, List.length_drop, hS1l]; omega) hcap hl (by simpa only [List.append_assoc] using hH)) ?_
              rintro e w ⟨rfl, S2, p2, s2, hH⟩
              refine ⟨_, rfl, fun A hF => ?_⟩
              refine wpList_nil ?_
              refine fin (M := []) (hs := []) tab hF hH rfl (by first | exact trivial | (simp only [All, inK_i64, inK_u64, inK_u32, inK_u8, inK_i32, max_i64, max_u64, IntKind.bits, Int.reduceToNat, Int.reduceAdd, Nat.reducePow, Int.reducePow, and_true, true_and, and_self] <;> omega)) ?_
              obtain ⟨q1, q2⟩ := merge_join p1 p2 s1 s2 hcross
              rw [List.take_append_drop, List.take_append_drop] at q1
              exact ⟨rfl, _, q1, q2, by simpa only [List.append_assoc] using hH⟩
            · skip
              refine ev0 [0, 0, 1, 0, 0, 0, 2, 0] tab hF hH rfl (by first | exact trivial | (simp only [All, inK_i64, inK_u64, inK_u32, inK_u8, inK_i32, max_i64, max_u64, IntKind.bits, Int.reduceToNat, Int.reduceAdd, Nat.reducePow, Int.reducePow, and_true, true_and, and_self] <;> omega)) ?_
              intro A w hF hH
              refine wpList_nil ?_
              refine cond_f hF rfl rfl ?_
              refine wp_skip ?_
              refine fin (M := []) (hs := []) tab hF hH rfl (by first | exact trivial | (simp only [All, inK_i64, inK_u64, inK_u32, inK_u8, inK_i32, max_i64, max_u64, IntKind.bits, Int.reduceToNat, Int.reduceAdd, Nat.reducePow, Int.reducePow, and_true, true_and, and_self] <;> omega)) ?_
              have hB20 : B.drop (h - u) = [] := List.drop_eq_nil_of_le (by omega)
              rw [hB20] at hcross hH
              obtain ⟨q1, q2⟩ := merge_join p1 (List.Perm.refl (D.drop u ++ [])) s1 (by rw [List.append_nil]; exact hD2) hcross
              have hj : (D.take u ++ D.drop u) ++ (B.take (h - u) ++ []) = D ++ B := by rw [← hB20, List.take_append_drop, List.take_append_drop]
              rw [hj] at q1
              exact ⟨rfl, _, q1, q2, by simpa only [List.append_assoc] using hH⟩
          · skip
            refine ev0 [0, 0, 2, 0, 0, 0, 0, 0] tab hF hH rfl (by first | exact trivial | (simp only [All, inK_i64, inK_u64, inK_u32, inK_u8, inK_i32, max_i64, max_u64, IntKind.bits, Int.reduceToNat, Int.reduceAdd, Nat.reducePow, Int.reducePow, and_true, true_and, and_self] <;> omega)) ?_
            intro A w hF hH
            refine wpList_nil ?_
            refine cond_f hF rfl rfl ?_
            refine wp_skip ?_
            refine fin (M := []) (hs := []) tab hF hH rfl (by first | exact trivial | (simp only [All, inK_i64, inK_u64, inK_u32, inK_u8, inK_i32, max_i64, max_u64, IntKind.bits, Int.reduceToNat, Int.reduceAdd, Nat.reducePow, Int.reducePow, and_true, true_and, and_self] <;> omega)) ?_
            have hD20 : D.drop u = [] := List.drop_eq_nil_of_le (by omega)
            rw [hD20] at hcross hH
            obtain ⟨q1, q2⟩ := merge_join p1 (List.Perm.refl ([] ++ B.drop (h - u))) s1 (by rw [List.nil_append]; exact hB2) hcross
            have hj : (D.take u ++ []) ++ (B.take (h - u) ++ B.drop (h - u)) = D ++ B := by rw [← hD20, List.take_append_drop, List.take_append_drop]
            rw [hj] at q1
            exact ⟨rfl, _, q1, q2, by simpa only [List.append_assoc] using hH⟩
end Go.Proofs.Try
