/- Rows of jobs: one job merged into a sorted row behind it. -/
import Derived.Test.YtfapcagleghlaaaYd
set_option linter.all false
namespace Go.Proofs.Try
open Go Go.Sep

abbrev SymRes (κ : K) (C : List HP) (b : Nat) (X D Y : List Prt) (junk : List Value) (e : Ending) (w' : World) : Prop :=
  e = .returned (.tuple #[]) ∧ ∃ S : List Prt, S.Perm D ∧ Srt S ∧ Hp κ w' (row b ((X ++ S ++ Y).flatMap jenc ++ junk) 40 :: C)
section
variable {κ : K} {w : World} {C : List HP}
set_option maxRecDepth 20000 in
theorem sym_first {b cap : Nat} (X B Y : List Prt) (d : Prt) (junk : List Value) {a m c len : Nat} (ha : a = X.length) (hm : m = X.length + 1) (hc : c = X.length + 1 + B.length) (hB : Srt B)
    (hlen : len = (X ++ (d :: B) ++ Y).length) (hcap : len ≤ cap) (hl : len ≤ 1000000)
    (hH : Hp κ w (row b ((X ++ (d :: B) ++ Y).flatMap jenc ++ junk) 40 :: C)) : Calls Try.prog 81 #[.slice (some ⟨b, 0, none⟩) len cap, .int .i64 a, .int .i64 m, .int .i64 c, .func (.func 37) #[] #[]] w
    (SymRes κ C b X (d :: B) Y junk) := by
  have hll : len = X.length + 1 + B.length + Y.length := by rw [hlen]; simp; omega
  rw [List.append_assoc, List.cons_append] at hH
  have hc' : (c : Int) = m + B.length := by omega
  refine enter (args := [.slice (some ⟨b, 0, none⟩) len cap, .int .i64 a, .int .i64 m, .int .i64 c, .func (.func 37) #[] #[]]) Try.func81 rfl rfl ?_
  intro A hF
  refine wp_seq ?_
  refine wp_seq ?_
  refine wp_region_lit ?_
  refine ev0 [0, 0, 0, 1] tab hF hH rfl (by first | exact trivial | (simp only [All, inK_i64, inK_u64, inK_u32, inK_u8, inK_i32, max_i64, max_u64, IntKind.bits, Int.reduceToNat, Int.reduceAdd, Nat.reducePow, Int.reducePow, and_true, true_and, and_self] <;> omega)) ?_
  intro A w hF hH
  refine wpList_nil ?_
  refine cond_t hF rfl rfl ?_
  refine wp_seq ?_
  refine wp_region_lit ?_
  refine ev0 [0, 0] tab hF hH rfl (by first | exact trivial | (simp only [All, inK_i64, inK_u64, inK_u32, inK_u8, inK_i32, max_i64, max_u64, IntKind.bits, Int.reduceToNat, Int.reduceAdd, Nat.reducePow, Int.reducePow, and_true, true_and, and_self] <;> omega)) ?_
  intro A w hF hH
  refine wpList_nil ?_
  refine wp_seq ?_
  refine wp_region_lit ?_
  rw [hc'] at hF
  refine ev0 [0, 0] tab hF hH rfl (by first | exact trivial | (simp only [All, inK_i64, inK_u64, inK_u32, inK_u8, inK_i32, max_i64, max_u64, IntKind.bits, Int.reduceToNat, Int.reduceAdd, Nat.reducePow, Int.reducePow, and_true, true_and, and_self] <;> omega)) ?_
  intro A w hF hH
  refine wpList_nil ?_
  refine wp_seq ?_
  refine wp_block ?_
  refine loop_j (fun (p : Nat × Nat) A w => p.1 ≤ p.2 ∧ p.2 ≤ B.length ∧ (∀ q ∈ B.take p.1, leP q d) ∧ (∀ q ∈ B.drop p.2, leP d q) ∧ Fr 220 A [(10, .int .i64 (m + p.1)), (11, .int .i64 (m + p.2)), (0, .slice (some ⟨b, 0, none⟩) len cap), (1, .int .i64 a), (4, .func (.func 37) #[] #[])] ∧ Hp κ w (row b ((X ++ d :: (B ++ Y)).flatMap jenc ++ junk) 40 :: C)) (fun p => p.2 - p.1) (0, B.length) ⟨Nat.zero_le _, Nat.le_refl _, by simp, by simp, Fr.to hF ⟨by simp; rfl, rfl, rfl, rfl, rfl, trivial⟩, hH⟩ ?_
  rintro ⟨u, v⟩ A w ⟨huv, hv, h1, h2, hF, hH⟩
  simp only at huv hv h1 h2
  refine wp_seq ?_
  refine wp_seq ?_
  refine wp_region_lit ?_
  by_cases hlt : u < v
  · refine ev0 [0, 0, 1] tab hF hH rfl (by first | exact trivial | (simp only [All, inK_i64, inK_u64, inK_u32, inK_u8, inK_i32, max_i64, max_u64, IntKind.bits, Int.reduceToNat, Int.reduceAdd, Nat.reducePow, Int.reducePow, and_true, true_and, and_self] <;> omega)) ?_
    intro A w hF hH
    refine wpList_nil ?_
    refine cond_t hF rfl rfl ?_
    refine wp_skip ?_
    refine wp_block ?_
    refine wp_seq ?_
    refine wp_region_lit ?_
    have hh : ((m : Int) + u + (m + v)) / 2 = m + (((u + v) / 2 : Nat) : Int) := by omega
    refine ev0 [0, 0, 0, 0, 0, 0, 0] tab hF hH rfl (by first | exact trivial | (simp only [All, inK_i64, inK_u64, inK_u32, inK_u8, inK_i32, max_i64, max_u64, IntKind.bits, Int.reduceToNat, Int.reduceAdd, Nat.reducePow, Int.reducePow, and_true, true_and, and_self] <;> omega)) ?_
    intro A w hF hH
    simp only [Int.reduceToNat, Int.reducePow, hh] at hF
    refine wpList_nil ?_
    refine wp_seq ?_
    obtain ⟨h, hhe⟩ : ∃ h, h = (u + v) / 2 := ⟨_, rfl⟩
    rw [← hhe] at hF
    have hhB : h < B.length := by omega
    have e1 : X ++ d :: (B ++ Y) = (X ++ d :: B.take h) ++ B[h] :: (B.drop (h + 1) ++ Y) := by
      conv => lhs; rw [← List.take_append_drop h B, List.drop_eq_getElem_cons hhB]
      simp only [List.append_assoc, List.cons_append]
    have a1 := At.own (κ := κ) (X := [row b ((X ++ d :: (B ++ Y)).flatMap jenc ++ junk) 40]) (off := (m + h) * 5) (vs := jenc B[h]) 0 rfl (by rw [e1]; exact getM junk (by simp; omega))
    have a2 := At.own (κ := κ) (X := [row b ((X ++ d :: (B ++ Y)).flatMap jenc ++ junk) 40]) (off := a * 5) (vs := jenc d) 0 rfl (getM junk (by omega))
    have t1 := take_le hB (d := d) hhB
    have t2 := drop_ge hB (d := d) hhB
    generalize B[h] = q at *
    refine dr_reads (by kernel_rfl) [] [row b ((X ++ d :: (B ++ Y)).flatMap jenc ++ junk) 40] [] [(0, 0), (1, 0), (2, 0), (3, 0), (4, 1), (5, 0), (6, 0), (7, 0), (8, 3)] 2 tab (LFok.cons a1 (LFok.cons a2 (LFok.nil _ _))) (by kernel_rfl) rfl hF hH (by kernel_rfl) rfl (by first | exact trivial | (simp only [All, inK_i64, inK_u64, inK_u32, inK_u8, inK_i32, max_i64, max_u64, IntKind.bits, Int.reduceToNat, Int.reduceAdd, Nat.reducePow, Int.reducePow, and_true, true_and, and_self] <;> omega)) ?_
    intro A w hF hH
    refine dr_act (k := 9) (by kernel_rfl) rfl hF rfl ?_
    refine op_call hF rfl rfl rfl rfl rfl rfl isF37 (order_calls q d hH) ?_
    rintro e w ⟨rfl, hH⟩
    refine ⟨_, rfl, fun A hF => ?_⟩
    refine ⟨fun _ => Keeps.of hH (K.le.refl _), ?_⟩
    by_cases ho : ordF q d < 0
    · refine dr_more [] [row b ((X ++ d :: (B ++ Y)).flatMap jenc ++ junk) 40] [(10, 1)] 0 (K.le.refl _) tab (LFok.nil _ _) (by kernel_rfl) rfl hF hH (by kernel_rfl) rfl (by first | exact trivial | (simp only [All, inK_i64, inK_u64, inK_u32, inK_u8, inK_i32, max_i64, max_u64, IntKind.bits, Int.reduceToNat, Int.reduceAdd, Nat.reducePow, Int.reducePow, and_true, true_and, and_self] <;> omega)) ?_
      intro A hF
      refine dr_done (by kernel_rfl) ?_ _
      refine cond_t hF rfl rfl ?_
      refine wp_region_lit ?_
      refine ev0 [0, 0, 0] tab hF hH rfl (by first | exact trivial | (simp only [All, inK_i64, inK_u64, inK_u32, inK_u8, inK_i32, max_i64, max_u64, IntKind.bits, Int.reduceToNat, Int.reduceAdd, Nat.reducePow, Int.reducePow, and_true, true_and, and_self] <;> omega)) ?_
      intro A w hF hH
      simp only [Int.add_assoc] at hF
      refine wpList_nil ?_
      exact ⟨(h + 1, v), ⟨by simp only; omega, hv, t1 (ord_lt _ _ ho), h2, Fr.to hF ⟨rfl, rfl, rfl, rfl, rfl, trivial⟩, hH⟩, by simp only; omega⟩
    · skip
      refine dr_more [] [row b ((X ++ d :: (B ++ Y)).flatMap jenc ++ junk) 40] [(10, 2)] 0 (K.le.refl _) tab (LFok.nil _ _) (by kernel_rfl) rfl hF hH (by kernel_rfl) rfl (by first | exact trivial | (simp only [All, inK_i64, inK_u64, inK_u32, inK_u8, inK_i32, max_i64, max_u64, IntKind.bits, Int.reduceToNat, Int.reduceAdd, Nat.reducePow, Int.reducePow, and_true, true_and, and_self] <;> omega)) ?_
      intro A hF
      refine dr_done (by kernel_rfl) ?_ _
      refine cond_f hF rfl rfl ?_
      refine wp_region_lit ?_
      refine ev0 [0, 0] tab hF hH rfl (by first | exact trivial | (simp only [All, inK_i64, inK_u64, inK_u32, inK_u8, inK_i32, max_i64, max_u64, IntKind.bits, Int.reduceToNat, Int.reduceAdd, Nat.reducePow, Int.reducePow, and_true, true_and, and_self] <;> omega)) ?_
      intro A w hF hH
      refine wpList_nil ?_
      exact ⟨(u, h), ⟨by simp only; omega, by simp only; omega, h1, t2 ((ord_le _ _).1 ho), Fr.to hF ⟨rfl, rfl, rfl, rfl, rfl, trivial⟩, hH⟩, by simp only; omega⟩
  · skip
    have euv : v = u := by omega
    subst euv
    have hk0 : (a : Int) = a + ((0 : Nat) : Int) := by simp
    refine ev0 [0, 0, 2] tab hF hH rfl (by first | exact trivial | (simp only [All, inK_i64, inK_u64, inK_u32, inK_u8, inK_i32, max_i64, max_u64, IntKind.bits, Int.reduceToNat, Int.reduceAdd, Nat.reducePow, Int.reducePow, and_true, true_and, and_self] <;> omega)) ?_
    intro A w hF hH
    refine wpList_nil ?_
    refine cond_f hF rfl rfl ?_
    refine wp_exit ?_
    repeat (first | refine then_exit ?_ | refine ng_exit ?_ | refine blk_exit ?_ | refine blk_exit_ne rfl ?_)
    refine wp_seq ?_
    refine wp_seq ?_
    refine wp_region_lit ?_
    refine ev0 [0, 0] tab hF hH rfl (by first | exact trivial | (simp only [All, inK_i64, inK_u64, inK_u32, inK_u8, inK_i32, max_i64, max_u64, IntKind.bits, Int.reduceToNat, Int.reduceAdd, Nat.reducePow, Int.reducePow, and_true, true_and, and_self] <;> omega)) ?_
    intro A w hF hH
    refine wpList_nil ?_
    refine wp_block ?_
    refine loop_j (fun (t : Nat) A w => t ≤ v ∧ Fr 220 A [(13, .int .i64 (a + t)), (10, .int .i64 (m + v)), (0, .slice (some ⟨b, 0, none⟩) len cap)] ∧ Hp κ w (row b (((X ++ B.take t) ++ d :: (B.drop t ++ Y)).flatMap jenc ++ junk) 40 :: C)) (fun t => v - t) 0 ⟨Nat.zero_le _, Fr.to hF ⟨by rw [← hk0]; rfl, rfl, rfl, trivial⟩, by simpa using hH⟩ ?_
    rintro t A w ⟨ht, hF, hH⟩
    refine wp_seq ?_
    refine wp_seq ?_
    refine wp_region_lit ?_
    by_cases htv : t < v
    · refine ev0 [0, 0, 0, 1] tab hF hH rfl (by first | exact trivial | (simp only [All, inK_i64, inK_u64, inK_u32, inK_u8, inK_i32, max_i64, max_u64, IntKind.bits, Int.reduceToNat, Int.reduceAdd, Nat.reducePow, Int.reducePow, and_true, true_and, and_self] <;> omega)) ?_
      intro A w hF hH
      refine wpList_nil ?_
      refine cond_t hF rfl rfl ?_
      refine wp_skip ?_
      refine wp_seq ?_
      refine wp_block ?_
      have htB : t < B.length := by omega
      have ed : B.drop t = B[t] :: B.drop (t + 1) := List.drop_eq_getElem_cons htB
      have et : B.take (t + 1) = B.take t ++ [B[t]] := by rw [List.take_add_one, List.getElem?_eq_getElem htB]; rfl
      have hTl : (B.drop (t + 1) ++ Y).length + t + 2 + X.length = len := by rw [List.length_append, List.length_drop]; omega
      have hPl : (B.take t).length = t := by rw [List.length_take]; omega
      rw [ed, List.cons_append] at hH
      generalize B[t] = q at *
      generalize hP : B.take t = P at *
      generalize hT : B.drop (t + 1) ++ Y = T at *
      have e1 : (X ++ P) ++ d :: (q :: T) = (X ++ P ++ [d]) ++ q :: T := by simp
      have e2 : (X ++ P) ++ q :: (q :: T) = (X ++ P ++ [q]) ++ q :: T := by simp
      have a1 := At.own (κ := κ) (X := [row b (((X ++ P) ++ d :: (q :: T)).flatMap jenc ++ junk) 40]) (off := (a + t + 1) * 5) (vs := jenc q) 0 rfl (by rw [e1]; exact getM junk (by simp; omega))
      have a2 := At.own (κ := κ) (X := [row b (((X ++ P) ++ d :: (q :: T)).flatMap jenc ++ junk) 40]) (off := (a + t) * 5) (vs := jenc d) 0 rfl (getM junk (by simp; omega))
      refine dr_reads (by kernel_rfl) [] [row b (((X ++ P) ++ d :: (q :: T)).flatMap jenc ++ junk) 40] [15, 16, 17] [(0, 0), (1, 0), (2, 0), (3, 0), (4, 0), (5, 0), (6, 0), (7, 0), (8, 0), (9, 1), (10, 0), (11, 0), (12, 0), (13, 3), (14, 0)] 3 tab (LFok.cons a1 (LFok.cons a2 (LFok.nil _ _))) (by kernel_rfl) rfl hF hH (by kernel_rfl) rfl (by first | exact trivial | (simp only [All, inK_i64, inK_u64, inK_u32, inK_u8, inK_i32, max_i64, max_u64, IntKind.bits, Int.reduceToNat, Int.reduceAdd, Nat.reducePow, Int.reducePow, and_true, true_and, and_self] <;> omega)) ?_
      intro A w hF hH
      refine dr_act (k := 15) (by kernel_rfl) rfl hF rfl ?_
      refine op_storeS hF tab rfl rfl rfl rfl rfl rfl (by rw [lenJ]; show 0 + ((a : Int) + t).toNat * 5 + 5 ≤ _; simp; omega) hH ?_
      intro A w hF hH
      refine ⟨(fun h => absurd h (by decide)), ?_⟩
      have hH := putM (off := 0 + ((a : Int) + t).toNat * 5) (q := q) (X ++ P) (q :: T) (by simp; omega) hH
      rw [e2] at hH
      refine dr_act (k := 16) (by kernel_rfl) rfl hF rfl ?_
      refine op_ev (h := 0) (M := []) hF tab hH rfl (by first | exact trivial | (simp only [All, inK_i64, inK_u64, inK_u32, inK_u8, inK_i32, max_i64, max_u64, IntKind.bits, Int.reduceToNat, Int.reduceAdd, Nat.reducePow, Int.reducePow, and_true, true_and, and_self] <;> omega)) rfl ?_
      intro A w hF hH
      refine ⟨fun h => absurd h (by decide), ?_⟩
      refine dr_act (k := 17) (by kernel_rfl) rfl hF rfl ?_
      refine op_storeS hF tab rfl rfl rfl rfl rfl rfl (by rw [lenJ]; show 0 + ((a : Int) + t + 1).toNat * 5 + 5 ≤ _; simp; omega) hH ?_
      intro A w hF hH
      refine ⟨(fun h => absurd h (by decide)), ?_⟩
      refine dr_done (by kernel_rfl) ?_ _
      refine wp_region_lit ?_
      have hH := putM (off := 0 + ((a : Int) + t + 1).toNat * 5) (q := d) (X ++ P ++ [q]) T (by simp; omega) hH
      refine ev0 [0, 0, 0] tab hF hH rfl (by first | exact trivial | (simp only [All, inK_i64, inK_u64, inK_u32, inK_u8, inK_i32, max_i64, max_u64, IntKind.bits, Int.reduceToNat, Int.reduceAdd, Nat.reducePow, Int.reducePow, and_true, true_and, and_self] <;> omega)) ?_
      intro A w hF hH
      simp only [Int.add_assoc] at hF
      refine wpList_nil ?_
      exact ⟨t + 1, ⟨by omega, Fr.to hF ⟨rfl, rfl, rfl, trivial⟩, by rw [et, hT]; simpa using hH⟩, by omega⟩
    · skip
      refine ev0 [0, 0, 0, 2] tab hF hH rfl (by first | exact trivial | (simp only [All, inK_i64, inK_u64, inK_u32, inK_u8, inK_i32, max_i64, max_u64, IntKind.bits, Int.reduceToNat, Int.reduceAdd, Nat.reducePow, Int.reducePow, and_true, true_and, and_self] <;> omega)) ?_
      intro A w hF hH
      refine wpList_nil ?_
      refine cond_f hF rfl rfl ?_
      refine wp_exit ?_
      repeat (first | refine then_exit ?_ | refine ng_exit ?_ | refine blk_exit ?_ | refine blk_exit_ne rfl ?_)
      refine wp_ret ?_
      repeat (first | refine then_ret ?_ | refine blk_ret ?_ | refine ng_ret ?_)
      have e : t = v := by omega
      subst e
      refine ret (M := []) (hs := []) tab hF hH rfl (by first | exact trivial | (simp only [All, inK_i64, inK_u64, inK_u32, inK_u8, inK_i32, max_i64, max_u64, IntKind.bits, Int.reduceToNat, Int.reduceAdd, Nat.reducePow, Int.reducePow, and_true, true_and, and_self] <;> omega)) ?_
      obtain ⟨i1, i2⟩ := ins_at hB h1 h2
      exact ⟨rfl, _, i2, i1, by simpa using hH⟩
end
end Go.Proofs.Try
