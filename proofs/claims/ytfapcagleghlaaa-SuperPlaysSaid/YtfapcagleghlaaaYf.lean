/- Rows of jobs: one job merged into a sorted row ahead of it. -/
import Derived.Test.YtfapcagleghlaaaYe
set_option linter.all false
namespace Go.Proofs.Try
open Go Go.Sep

section
variable {κ : K} {w : World} {C : List HP}
set_option maxRecDepth 20000 in
theorem sym_last {b cap : Nat} (X D Y : List Prt) (e : Prt) (junk : List Value) {a m c len : Nat} (ha : a = X.length) (hm : m = X.length + D.length) (hc : c = X.length + D.length + 1) (hD : Srt D) (hD1 : D.length ≠ 1)
    (hlen : len = (X ++ (D ++ [e]) ++ Y).length) (hcap : len ≤ cap) (hl : len ≤ 1000000)
    (hH : Hp κ w (row b ((X ++ (D ++ [e]) ++ Y).flatMap jenc ++ junk) 40 :: C)) : Calls Try.prog 81 #[.slice (some ⟨b, 0, none⟩) len cap, .int .i64 a, .int .i64 m, .int .i64 c, .func (.func 37) #[] #[]] w
    (SymRes κ C b X (D ++ [e]) Y junk) := by
  have hll : len = X.length + D.length + 1 + Y.length := by rw [hlen]; simp; omega
  have hH : Hp κ w (row b (((X ++ D) ++ e :: Y).flatMap jenc ++ junk) 40 :: C) := by simpa using hH
  have hm' : (m : Int) = a + D.length := by omega
  have hD1' : ¬ (m : Int) - a = 1 := by omega
  refine enter (args := [.slice (some ⟨b, 0, none⟩) len cap, .int .i64 a, .int .i64 m, .int .i64 c, .func (.func 37) #[] #[]]) Try.func81 rfl rfl ?_
  intro A hF
  refine wp_seq ?_
  refine wp_seq ?_
  refine wp_region_lit ?_
  refine ev0 [0, 0, 0, 2] tab hF hH rfl (by first | exact trivial | (simp only [All, inK_i64, inK_u64, inK_u32, inK_u8, inK_i32, max_i64, max_u64, IntKind.bits, Int.reduceToNat, Int.reduceAdd, Nat.reducePow, Int.reducePow, and_true, true_and, and_self] <;> omega)) ?_
  intro A w hF hH
  refine wpList_nil ?_
  refine cond_f hF rfl rfl ?_
  refine wp_skip ?_
  refine wp_seq ?_
  refine wp_seq ?_
  refine wp_region_lit ?_
  refine ev0 [0, 0, 0, 1] tab hF hH rfl (by first | exact trivial | (simp only [All, inK_i64, inK_u64, inK_u32, inK_u8, inK_i32, max_i64, max_u64, IntKind.bits, Int.reduceToNat, Int.reduceAdd, Nat.reducePow, Int.reducePow, and_true, true_and, and_self] <;> omega)) ?_
  intro A w hF hH
  refine wpList_nil ?_
  refine cond_t hF rfl rfl ?_
  refine wp_seq ?_
  refine wp_region_lit ?_
  have ha0 : (a : Int) = a + ((0 : Nat) : Int) := by simp
  refine ev0 [0, 0] tab hF hH rfl (by first | exact trivial | (simp only [All, inK_i64, inK_u64, inK_u32, inK_u8, inK_i32, max_i64, max_u64, IntKind.bits, Int.reduceToNat, Int.reduceAdd, Nat.reducePow, Int.reducePow, and_true, true_and, and_self] <;> omega)) ?_
  intro A w hF hH
  refine wpList_nil ?_
  refine wp_seq ?_
  refine wp_region_lit ?_
  refine ev0 [0, 0] tab hF hH rfl (by first | exact trivial | (simp only [All, inK_i64, inK_u64, inK_u32, inK_u8, inK_i32, max_i64, max_u64, IntKind.bits, Int.reduceToNat, Int.reduceAdd, Nat.reducePow, Int.reducePow, and_true, true_and, and_self] <;> omega)) ?_
  intro A w hF hH
  refine wpList_nil ?_
  refine wp_seq ?_
  refine wp_block ?_
  refine loop_j (fun (p : Nat × Nat) A w => p.1 ≤ p.2 ∧ p.2 ≤ D.length ∧ (∀ q ∈ D.take p.1, leP q e) ∧ (∀ q ∈ D.drop p.2, leP e q) ∧ Fr 220 A [(14, .int .i64 (a + p.1)), (15, .int .i64 (a + p.2)), (0, .slice (some ⟨b, 0, none⟩) len cap), (2, .int .i64 m), (4, .func (.func 37) #[] #[])] ∧ Hp κ w (row b (((X ++ D) ++ e :: Y).flatMap jenc ++ junk) 40 :: C)) (fun p => p.2 - p.1) (0, D.length) ⟨Nat.zero_le _, Nat.le_refl _, by simp, by simp, Fr.to hF ⟨by rw [← ha0]; rfl, by rw [← hm']; rfl, rfl, rfl, rfl, trivial⟩, hH⟩ ?_
  rintro ⟨u, v⟩ A w ⟨huv, hv, h1, h2, hF, hH⟩
  simp only at huv hv h1 h2
  refine wp_seq ?_
  refine wp_seq ?_
  refine wp_region_lit ?_
  by_cases hlt : u < v
  · refine ev0 [0, 0, 1] tab hF hH rfl (by first | exact trivial | (simp only [All, inK_i64, inK_u64, inK_u32, inK_u8, inK_i32, max_i64, max_u64, IntKind.bits, Int.reduceToNat, Int.reduceAdd, Nat.reducePow, Int.reducePow, and_true, true_and, and_self] <;> omega)) ?_
    intro A w hF hH
    refine wpList_nil ?_
    refine cond_t hF rfl rfl ?_
    refine wp_skip ?_
    refine wp_block ?_
    refine wp_seq ?_
    refine wp_region_lit ?_
    have hh : ((a : Int) + u + (a + v)) / 2 = a + (((u + v) / 2 : Nat) : Int) := by omega
    refine ev0 [0, 0, 0, 0, 0, 0, 0] tab hF hH rfl (by first | exact trivial | (simp only [All, inK_i64, inK_u64, inK_u32, inK_u8, inK_i32, max_i64, max_u64, IntKind.bits, Int.reduceToNat, Int.reduceAdd, Nat.reducePow, Int.reducePow, and_true, true_and, and_self] <;> omega)) ?_
    intro A w hF hH
    simp only [Int.reduceToNat, Int.reducePow, hh] at hF
    refine wpList_nil ?_
    refine wp_seq ?_
    obtain ⟨h, hhe⟩ : ∃ h, h = (u + v) / 2 := ⟨_, rfl⟩
    rw [← hhe] at hF
    have hhB : h < D.length := by omega
    have e1 : (X ++ D) ++ e :: Y = (X ++ D.take h) ++ D[h] :: (D.drop (h + 1) ++ e :: Y) := by
      conv => lhs; rw [← List.take_append_drop h D, List.drop_eq_getElem_cons hhB]
      simp only [List.append_assoc, List.cons_append]
    have a1 := At.own (κ := κ) (X := [row b (((X ++ D) ++ e :: Y).flatMap jenc ++ junk) 40]) (off := (a + h) * 5) (vs := jenc D[h]) 0 rfl (by rw [e1]; exact getM junk (by simp; omega))
    have a2 := At.own (κ := κ) (X := [row b (((X ++ D) ++ e :: Y).flatMap jenc ++ junk) 40]) (off := m * 5) (vs := jenc e) 0 rfl (getM junk (by simp; omega))
    have t1 := take_le hD (d := e) hhB
    have t2 := drop_ge hD (d := e) hhB
    generalize D[h] = q at *
    refine dr_reads (by kernel_rfl) [] [row b (((X ++ D) ++ e :: Y).flatMap jenc ++ junk) 40] [] [(0, 0), (1, 0), (2, 0), (3, 0), (4, 3), (5, 0), (6, 0), (7, 0), (8, 1)] 3 tab (LFok.cons a1 (LFok.cons a2 (LFok.nil _ _))) (by kernel_rfl) rfl hF hH (by kernel_rfl) rfl (by first | exact trivial | (simp only [All, inK_i64, inK_u64, inK_u32, inK_u8, inK_i32, max_i64, max_u64, IntKind.bits, Int.reduceToNat, Int.reduceAdd, Nat.reducePow, Int.reducePow, and_true, true_and, and_self] <;> omega)) ?_
    intro A w hF hH
    refine dr_act (k := 9) (by kernel_rfl) rfl hF rfl ?_
    refine op_call hF rfl rfl rfl rfl rfl rfl isF37 (order_calls e q hH) ?_
    rintro e w ⟨rfl, hH⟩
    refine ⟨_, rfl, fun A hF => ?_⟩
    refine ⟨fun _ => Keeps.of hH (K.le.refl _), ?_⟩
    by_cases ho : ordF e q < 0
    · refine dr_more [] [row b (((X ++ D) ++ e :: Y).flatMap jenc ++ junk) 40] [(10, 1), (11, 0)] 0 (K.le.refl _) tab (LFok.nil _ _) (by kernel_rfl) rfl hF hH (by kernel_rfl) rfl (by first | exact trivial | (simp only [All, inK_i64, inK_u64, inK_u32, inK_u8, inK_i32, max_i64, max_u64, IntKind.bits, Int.reduceToNat, Int.reduceAdd, Nat.reducePow, Int.reducePow, and_true, true_and, and_self] <;> omega)) ?_
      intro A hF
      refine dr_done (by kernel_rfl) ?_ _
      refine cond_f hF rfl rfl ?_
      refine wp_region_lit ?_
      refine ev0 [0, 0] tab hF hH rfl (by first | exact trivial | (simp only [All, inK_i64, inK_u64, inK_u32, inK_u8, inK_i32, max_i64, max_u64, IntKind.bits, Int.reduceToNat, Int.reduceAdd, Nat.reducePow, Int.reducePow, and_true, true_and, and_self] <;> omega)) ?_
      intro A w hF hH
      refine wpList_nil ?_
      exact ⟨(u, h), ⟨by simp only; omega, by simp only; omega, h1, t2 (ord_lt _ _ ho), Fr.to hF ⟨rfl, rfl, rfl, rfl, rfl, trivial⟩, hH⟩, by simp only; omega⟩
    · skip
      refine dr_more [] [row b (((X ++ D) ++ e :: Y).flatMap jenc ++ junk) 40] [(10, 2), (11, 0)] 0 (K.le.refl _) tab (LFok.nil _ _) (by kernel_rfl) rfl hF hH (by kernel_rfl) rfl (by first | exact trivial | (simp only [All, inK_i64, inK_u64, inK_u32, inK_u8, inK_i32, max_i64, max_u64, IntKind.bits, Int.reduceToNat, Int.reduceAdd, Nat.reducePow, Int.reducePow, and_true, true_and, and_self] <;> omega)) ?_
      intro A hF
      refine dr_done (by kernel_rfl) ?_ _
      refine cond_t hF rfl rfl ?_
      refine wp_region_lit ?_
      refine ev0 [0, 0, 0] tab hF hH rfl (by first | exact trivial | (simp only [All, inK_i64, inK_u64, inK_u32, inK_u8, inK_i32, max_i64, max_u64, IntKind.bits, Int.reduceToNat, Int.reduceAdd, Nat.reducePow, Int.reducePow, and_true, true_and, and_self] <;> omega)) ?_
      intro A w hF hH
      simp only [Int.add_assoc] at hF
      refine wpList_nil ?_
      exact ⟨(h + 1, v), ⟨by simp only; omega, hv, t1 ((ord_le _ _).1 ho), h2, Fr.to hF ⟨rfl, rfl, rfl, rfl, rfl, trivial⟩, hH⟩, by simp only; omega⟩
  · skip
    have euv : v = u := by omega
    subst euv
    refine ev0 [0, 0, 2] tab hF hH rfl (by first | exact trivial | (simp only [All, inK_i64, inK_u64, inK_u32, inK_u8, inK_i32, max_i64, max_u64, IntKind.bits, Int.reduceToNat, Int.reduceAdd, Nat.reducePow, Int.reducePow, and_true, true_and, and_self] <;> omega)) ?_
    intro A w hF hH
    refine wpList_nil ?_
    refine cond_f hF rfl rfl ?_
    refine wp_exit ?_
    repeat (first | refine then_exit ?_ | refine ng_exit ?_ | refine blk_exit ?_ | refine blk_exit_ne rfl ?_)
    refine wp_seq ?_
    refine wp_seq ?_
    refine wp_region_lit ?_
    refine ev0 [0, 0] tab hF hH rfl (by first | exact trivial | (simp only [All, inK_i64, inK_u64, inK_u32, inK_u8, inK_i32, max_i64, max_u64, IntKind.bits, Int.reduceToNat, Int.reduceAdd, Nat.reducePow, Int.reducePow, and_true, true_and, and_self] <;> omega)) ?_
    intro A w hF hH
    refine wpList_nil ?_
    refine wp_block ?_
    rw [hm'] at hF
    refine loop_j (fun (s : Nat) A w => v ≤ s ∧ s ≤ D.length ∧ Fr 220 A [(17, .int .i64 (a + s)), (14, .int .i64 (a + v)), (0, .slice (some ⟨b, 0, none⟩) len cap)] ∧ Hp κ w (row b (((X ++ D.take s) ++ e :: (D.drop s ++ Y)).flatMap jenc ++ junk) 40 :: C)) (fun s => s) D.length ⟨hv, Nat.le_refl _, Fr.to hF ⟨rfl, rfl, rfl, trivial⟩, by simpa using hH⟩ ?_
    rintro s A w ⟨hs1, hs2, hF, hH⟩
    refine wp_seq ?_
    refine wp_seq ?_
    refine wp_region_lit ?_
    by_cases htv : v < s
    · obtain ⟨t, rfl⟩ : ∃ t, s = t + 1 := ⟨s - 1, by omega⟩
      refine ev0 [0, 0, 1] tab hF hH rfl (by first | exact trivial | (simp only [All, inK_i64, inK_u64, inK_u32, inK_u8, inK_i32, max_i64, max_u64, IntKind.bits, Int.reduceToNat, Int.reduceAdd, Nat.reducePow, Int.reducePow, and_true, true_and, and_self] <;> omega)) ?_
      intro A w hF hH
      refine wpList_nil ?_
      refine cond_t hF rfl rfl ?_
      refine wp_skip ?_
      refine wp_seq ?_
      refine wp_block ?_
      have htB : t < D.length := by omega
      have ed : D.drop t = D[t] :: D.drop (t + 1) := List.drop_eq_getElem_cons htB
      have et : D.take (t + 1) = D.take t ++ [D[t]] := by rw [List.take_add_one, List.getElem?_eq_getElem htB]; rfl
      have hTl : (D.drop (t + 1) ++ Y).length + t + 2 + X.length = len := by rw [List.length_append, List.length_drop]; omega
      have hPl : (D.take t).length = t := by rw [List.length_take]; omega
      have hgoal : (X ++ D.take t) ++ e :: (D.drop t ++ Y) = (X ++ D.take t) ++ e :: (D[t] :: (D.drop (t + 1) ++ Y)) := by rw [ed]; rfl
      rw [et] at hH
      generalize D[t] = q at *
      generalize hP : D.take t = P at *
      generalize hT : D.drop (t + 1) ++ Y = T at *
      have e0 : (X ++ (P ++ [q])) ++ e :: T = (X ++ P) ++ q :: (e :: T) := by simp
      have e2 : (X ++ (P ++ [q])) ++ q :: T = (X ++ P) ++ q :: (q :: T) := by simp
      have hj1 : (a : Int) + ((t + 1 : Nat) : Int) - 1 = a + t := by omega
      have a1 := At.own (κ := κ) (X := [row b (((X ++ (P ++ [q])) ++ e :: T).flatMap jenc ++ junk) 40]) (off := (a + t) * 5) (vs := jenc q) 0 rfl (by rw [e0]; exact getM junk (by simp; omega))
      have a2 := At.own (κ := κ) (X := [row b (((X ++ (P ++ [q])) ++ e :: T).flatMap jenc ++ junk) 40]) (off := (a + (t + 1)) * 5) (vs := jenc e) 0 rfl (getM junk (by simp; omega))
      refine dr_reads (by kernel_rfl) [] [row b (((X ++ (P ++ [q])) ++ e :: T).flatMap jenc ++ junk) 40] [15, 16, 17] [(0, 0), (1, 0), (2, 0), (3, 0), (4, 0), (5, 0), (6, 0), (7, 0), (8, 0), (9, 1), (10, 0), (11, 0), (12, 0), (13, 3), (14, 0)] 3 tab (LFok.cons a1 (LFok.cons a2 (LFok.nil _ _))) (by kernel_rfl) rfl hF hH (by kernel_rfl) rfl (by first | exact trivial | (simp only [All, inK_i64, inK_u64, inK_u32, inK_u8, inK_i32, max_i64, max_u64, IntKind.bits, Int.reduceToNat, Int.reduceAdd, Nat.reducePow, Int.reducePow, and_true, true_and, and_self] <;> omega)) ?_
      intro A w hF hH
      refine dr_act (k := 15) (by kernel_rfl) rfl hF rfl ?_
      refine op_storeS hF tab rfl rfl rfl rfl rfl rfl (by rw [lenJ]; show 0 + ((a : Int) + ((t + 1 : Nat) : Int)).toNat * 5 + 5 ≤ _; simp; omega) hH ?_
      intro A w hF hH
      refine ⟨(fun h => absurd h (by decide)), ?_⟩
      have hH := putM (off := 0 + ((a : Int) + ((t + 1 : Nat) : Int)).toNat * 5) (q := q) (X ++ (P ++ [q])) T (by simp; omega) hH
      rw [e2] at hH
      refine dr_act (k := 16) (by kernel_rfl) rfl hF rfl ?_
      refine op_ev (h := 0) (M := []) hF tab hH rfl (by first | exact trivial | (simp only [All, inK_i64, inK_u64, inK_u32, inK_u8, inK_i32, max_i64, max_u64, IntKind.bits, Int.reduceToNat, Int.reduceAdd, Nat.reducePow, Int.reducePow, and_true, true_and, and_self] <;> omega)) rfl ?_
      intro A w hF hH
      refine ⟨fun h => absurd h (by decide), ?_⟩
      refine dr_act (k := 17) (by kernel_rfl) rfl hF rfl ?_
      refine op_storeS hF tab rfl rfl rfl rfl rfl rfl (by rw [lenJ]; show 0 + ((a : Int) + ((t + 1 : Nat) : Int) - 1).toNat * 5 + 5 ≤ _; simp; omega) hH ?_
      intro A w hF hH
      refine ⟨(fun h => absurd h (by decide)), ?_⟩
      refine dr_done (by kernel_rfl) ?_ _
      refine wp_region_lit ?_
      have hH := putM (off := 0 + ((a : Int) + ((t + 1 : Nat) : Int) - 1).toNat * 5) (q := e) (X ++ P) (q :: T) (by simp; omega) hH
      rw [← hgoal] at hH
      refine ev0 [0, 0, 0] tab hF hH rfl (by first | exact trivial | (simp only [All, inK_i64, inK_u64, inK_u32, inK_u8, inK_i32, max_i64, max_u64, IntKind.bits, Int.reduceToNat, Int.reduceAdd, Nat.reducePow, Int.reducePow, and_true, true_and, and_self] <;> omega)) ?_
      intro A w hF hH
      simp only [hj1] at hF
      refine wpList_nil ?_
      exact ⟨t, ⟨by omega, by omega, Fr.to hF ⟨rfl, rfl, rfl, trivial⟩, by rw [hP]; exact hH⟩, by omega⟩
    · skip
      refine ev0 [0, 0, 2] tab hF hH rfl (by first | exact trivial | (simp only [All, inK_i64, inK_u64, inK_u32, inK_u8, inK_i32, max_i64, max_u64, IntKind.bits, Int.reduceToNat, Int.reduceAdd, Nat.reducePow, Int.reducePow, and_true, true_and, and_self] <;> omega)) ?_
      intro A w hF hH
      refine wpList_nil ?_
      refine cond_f hF rfl rfl ?_
      refine wp_exit ?_
      repeat (first | refine then_exit ?_ | refine ng_exit ?_ | refine blk_exit ?_ | refine blk_exit_ne rfl ?_)
      refine wp_ret ?_
      repeat (first | refine then_ret ?_ | refine blk_ret ?_ | refine ng_ret ?_)
      have es : s = v := by omega
      subst es
      refine ret (M := []) (hs := []) tab hF hH rfl (by first | exact trivial | (simp only [All, inK_i64, inK_u64, inK_u32, inK_u8, inK_i32, max_i64, max_u64, IntKind.bits, Int.reduceToNat, Int.reduceAdd, Nat.reducePow, Int.reducePow, and_true, true_and, and_self] <;> omega)) ?_
      obtain ⟨i1, i2⟩ := ins_at hD h1 h2
      exact ⟨rfl, _, i2.trans (List.perm_append_singleton e D).symm, i1, by simpa using hH⟩
end
end Go.Proofs.Try
