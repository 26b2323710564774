/- Rows of jobs: sorted by insertion. -/
import Derived.Test.YtfapcagleghlaaaYb
import Derived.Test.YtfapcagleghlaaaU
set_option linter.all false
namespace Go.Proofs.Try
open Go Go.Sep

def leP (p q : Prt) : Prop := p.dl < q.dl ∨ (p.dl = q.dl ∧ p.k ≤ q.k)
theorem ord_le (p q : Prt) : ¬ ordF q p < 0 ↔ leP p q := by
  rw [ordF_lss]; unfold leP; omega
theorem ord_lt (p q : Prt) (h : ordF p q < 0) : leP p q := by
  rw [ordF_lss] at h; unfold leP; omega
theorem leP_trans {p q r : Prt} (h1 : leP p q) (h2 : leP q r) : leP p r := by unfold leP at *; omega
def Srt (l : List Prt) : Prop := l.Pairwise leP
theorem putM {κ : K} {w : World} {C : List HP} {b off : Nat} {junk : List Value} (L1 L2 : List Prt) {p q : Prt} (e : off = L1.length * 5) (hH : Hp κ w (row b (putL ((L1 ++ p :: L2).flatMap jenc ++ junk) off (jenc q)) 40 :: C)) :
    Hp κ w (row b ((L1 ++ q :: L2).flatMap jenc ++ junk) 40 :: C) := by
  have := putJ (q := q) L1.length (by simp) e hH
  rw [List.set_append_right _ _ (Nat.le_refl _), Nat.sub_self, List.set_cons_zero] at this
  exact this
theorem getM {L1 L2 : List Prt} {p : Prt} (junk : List Value) {off : Nat} (e : off = L1.length * 5) : ∀ j u, (jenc p)[j]? = some u → ((L1 ++ p :: L2).flatMap jenc ++ junk)[off + j]? = some u := by
  have h : L1.length < (L1 ++ p :: L2).length := by simp
  have := getJ (L1 ++ p :: L2) junk L1.length off h e
  simpa using this
theorem ins_srt {P Q : List Prt} {x : Prt} (h : Srt (P ++ Q)) (h1 : ∀ y ∈ P, leP y x) (h2 : ∀ q ∈ Q, leP x q) : Srt (P ++ x :: Q) := by
  unfold Srt at *
  rw [List.pairwise_append] at h ⊢
  obtain ⟨a, b, c⟩ := h
  refine ⟨a, List.pairwise_cons.2 ⟨h2, b⟩, fun y hy z hz => ?_⟩
  rcases List.mem_cons.1 hz with rfl | hz
  · exact h1 y hy
  · exact c y hy z hz
section
variable {κ : K} {w : World} {C : List HP}
set_option maxRecDepth 20000 in
theorem insert_calls {b cap : Nat} (X D Y : List Prt) (junk : List Value) {a c len : Nat} (ha : a = X.length) (hc : c = X.length + D.length)
    (hlen : len = (X ++ D ++ Y).length) (hcap : len ≤ cap) (hl : len ≤ 1000000)
    (hH : Hp κ w (row b ((X ++ D ++ Y).flatMap jenc ++ junk) 40 :: C)) : Calls Try.prog 80 #[.slice (some ⟨b, 0, none⟩) len cap, .int .i64 a, .int .i64 c, .func (.func 37) #[] #[]] w
    (fun e w' => e = .returned (.tuple #[]) ∧ ∃ S : List Prt, S.Perm D ∧ Srt S ∧ Hp κ w' (row b ((X ++ S ++ Y).flatMap jenc ++ junk) 40 :: C)) := by
  have hll : len = X.length + D.length + Y.length := by rw [hlen]; simp only [List.length_append]
  have hs1 : Srt (D.take 1) := by
    cases D with
    | nil => exact List.Pairwise.nil
    | cons d D => exact List.pairwise_singleton _ _
  refine enter (args := [.slice (some ⟨b, 0, none⟩) len cap, .int .i64 a, .int .i64 c, .func (.func 37) #[] #[]]) Try.func80 rfl rfl ?_
  intro A hF
  refine wp_seq ?_
  refine wp_region_lit ?_
  refine ev0 [0, 0, 0] tab hF hH rfl (by first | exact trivial | (simp only [All, inK_i64, inK_u64, inK_u32, inK_u8, inK_i32, max_i64, max_u64, IntKind.bits, Int.reduceToNat, Int.reduceAdd, Nat.reducePow, Int.reducePow, and_true, true_and, and_self] <;> omega)) ?_
  intro A w hF hH
  refine wpList_nil ?_
  refine wp_block ?_
  refine loop_j (fun (i : Nat) A w => (∃ S R : List Prt, (S ++ R).Perm D ∧ Srt S ∧ S.length = min i D.length ∧ S.length + R.length = D.length ∧ Hp κ w (row b ((X ++ S ++ R ++ Y).flatMap jenc ++ junk) 40 :: C)) ∧ 1 ≤ i ∧ Fr 53 A [(8, .int .i64 (a + i)), (0, .slice (some ⟨b, 0, none⟩) len cap), (1, .int .i64 a), (2, .int .i64 c), (3, .func (.func 37) #[] #[])]) (fun i => D.length - i) 1 ⟨⟨D.take 1, D.drop 1, by rw [List.take_append_drop], hs1, by simp, by simp; omega, by rw [List.append_assoc X, List.take_append_drop]; exact hH⟩, Nat.le_refl _, Fr.to hF ⟨rfl, rfl, rfl, rfl, rfl, trivial⟩⟩ ?_
  rintro i A w ⟨⟨S, R, hperm, hsrt, hS, hSR, hH⟩, hi, hF⟩
  refine wp_seq ?_
  refine wp_seq ?_
  refine wp_region_lit ?_
  by_cases hlt : i < D.length
  · refine ev0 [0, 0, 1] tab hF hH rfl (by first | exact trivial | (simp only [All, inK_i64, inK_u64, inK_u32, inK_u8, inK_i32, max_i64, max_u64, IntKind.bits, Int.reduceToNat, Int.reduceAdd, Nat.reducePow, Int.reducePow, and_true, true_and, and_self] <;> omega)) ?_
    intro A w hF hH
    refine wpList_nil ?_
    refine cond_t hF rfl rfl ?_
    refine wp_skip ?_
    refine wp_seq ?_
    refine wp_block ?_
    refine wp_seq ?_
    refine wp_region_lit ?_
    obtain ⟨x, R', rfl⟩ : ∃ x R', R = x :: R' := by
      cases R with
      | nil => simp at hSR; omega
      | cons x R' => exact ⟨x, R', rfl⟩
    simp only [List.length_cons] at hSR
    have hSi : S.length = i := by omega
    refine ev0 [0, 0] tab hF hH rfl (by first | exact trivial | (simp only [All, inK_i64, inK_u64, inK_u32, inK_u8, inK_i32, max_i64, max_u64, IntKind.bits, Int.reduceToNat, Int.reduceAdd, Nat.reducePow, Int.reducePow, and_true, true_and, and_self] <;> omega)) ?_
    intro A w hF hH
    refine wpList_nil ?_
    refine wp_block ?_
    refine loop_j (fun (j : Nat) A w => (∃ P Q : List Prt, P ++ Q = S ∧ P.length = j ∧ (∀ q ∈ Q, leP x q) ∧ Hp κ w (row b (((X ++ P) ++ x :: (Q ++ (R' ++ Y))).flatMap jenc ++ junk) 40 :: C)) ∧ Fr 53 A [(9, .int .i64 (a + j)), (8, .int .i64 (a + i)), (0, .slice (some ⟨b, 0, none⟩) len cap), (1, .int .i64 a), (2, .int .i64 c), (3, .func (.func 37) #[] #[])]) (fun j => j) i ⟨⟨S, [], by simp, hSi, fun q hq => (by cases hq), by simpa using hH⟩, Fr.to hF ⟨rfl, rfl, rfl, rfl, rfl, rfl, trivial⟩⟩ ?_
    rintro j A w ⟨⟨P, Q, hPQ, hP, hxQ, hH⟩, hF⟩
    have hSl : P.length + Q.length = S.length := by rw [← hPQ]; simp
    have fin : ∀ A w, (∀ y ∈ P, leP y x) → Hp κ w (row b (((X ++ P) ++ x :: (Q ++ (R' ++ Y))).flatMap jenc ++ junk) 40 :: C) → Fr 53 A [(8, .int .i64 (a + (i + 1 : Nat))), (0, .slice (some ⟨b, 0, none⟩) len cap), (1, .int .i64 a), (2, .int .i64 c), (3, .func (.func 37) #[] #[])] →
        ∃ i', ((∃ S R : List Prt, (S ++ R).Perm D ∧ Srt S ∧ S.length = min i' D.length ∧ S.length + R.length = D.length ∧ Hp κ w (row b ((X ++ S ++ R ++ Y).flatMap jenc ++ junk) 40 :: C)) ∧ 1 ≤ i' ∧ Fr 53 A [(8, .int .i64 (a + i')), (0, .slice (some ⟨b, 0, none⟩) len cap), (1, .int .i64 a), (2, .int .i64 c), (3, .func (.func 37) #[] #[])]) ∧ D.length - i' < D.length - i := by
      intro A w hy hH hF
      refine ⟨i + 1, ⟨⟨P ++ x :: Q, R', ?_, ins_srt (by rw [hPQ]; exact hsrt) hy hxQ, by simp; omega, by simp; omega, by simpa using hH⟩, by omega, hF⟩, by omega⟩
      refine List.Perm.trans ?_ hperm
      rw [← hPQ]
      have : (P ++ x :: Q).Perm (x :: (P ++ Q)) := List.perm_middle
      refine (this.append_right R').trans ?_
      exact (List.perm_middle (l₁ := P ++ Q) (l₂ := R') (a := x)).symm
    refine wp_seq ?_
    refine wp_seq ?_
    cases j with
    | zero =>
      have hP0 : P = [] := List.eq_nil_of_length_eq_zero hP
      subst hP0
      refine dr_all (by kernel_rfl) [] [] [(0, 0), (1, 0), (2, 2), (3, 0), (4, 0), (5, 0), (6, 0), (7, 0), (8, 0), (9, 0), (10, 0), (11, 0), (12, 0), (13, 0), (14, 0), (15, 0), (16, 0)] tab (LFok.nil _ _) (by kernel_rfl) rfl hF hH (by kernel_rfl) (by kernel_rfl) rfl (by first | exact trivial | (simp only [All, inK_i64, inK_u64, inK_u32, inK_u8, inK_i32, max_i64, max_u64, IntKind.bits, Int.reduceToNat, Int.reduceAdd, Nat.reducePow, Int.reducePow, and_true, true_and, and_self] <;> omega)) ?_
      intro A w hF hH
      refine cond_f hF rfl rfl ?_
      refine wp_exit ?_
      repeat (first | refine then_exit ?_ | refine ng_exit ?_ | refine blk_exit ?_ | refine blk_exit_ne rfl ?_)
      refine wp_region_lit ?_
      refine ev0 [0, 0, 0] tab hF hH rfl (by first | exact trivial | (simp only [All, inK_i64, inK_u64, inK_u32, inK_u8, inK_i32, max_i64, max_u64, IntKind.bits, Int.reduceToNat, Int.reduceAdd, Nat.reducePow, Int.reducePow, and_true, true_and, and_self] <;> omega)) ?_
      intro A w hF hH
      simp only [Int.add_assoc] at hF
      refine wpList_nil ?_
      exact fin A w (fun y hy => by cases hy) hH (Fr.to hF ⟨rfl, rfl, rfl, rfl, rfl, trivial⟩)
    | succ j' =>
      obtain ⟨P', y, rfl⟩ : ∃ P' y, P = P' ++ [y] := ⟨P.dropLast, P.getLast (by intro h; subst h; simp at hP), (List.dropLast_concat_getLast _).symm⟩
      have hP' : P'.length = j' := by simpa using hP
      generalize hT : Q ++ (R' ++ Y) = T at *
      have e1 : (X ++ (P' ++ [y])) ++ x :: T = (X ++ P') ++ y :: (x :: T) := by simp
      have e2 : (X ++ (P' ++ [y])) ++ y :: T = (X ++ P') ++ y :: (y :: T) := by simp
      have hTl : T.length + P'.length + X.length + 2 = len := by rw [← hT]; simp; omega
      have a1 := At.own (κ := κ) (X := [row b (((X ++ (P' ++ [y])) ++ x :: T).flatMap jenc ++ junk) 40]) (off := (a + (j' + 1)) * 5) (vs := jenc x) 0 rfl (getM junk (by simp; omega))
      have a2 := At.own (κ := κ) (X := [row b (((X ++ (P' ++ [y])) ++ x :: T).flatMap jenc ++ junk) 40]) (off := (a + j') * 5) (vs := jenc y) 0 rfl (by rw [e1]; exact getM junk (by simp; omega))
      have hj1 : (a : Int) + ((j' + 1 : Nat) : Int) - 1 = a + j' := by omega
      refine dr_reads (by kernel_rfl) [] [row b (((X ++ (P' ++ [y])) ++ x :: T).flatMap jenc ++ junk) 40] [] [(0, 0), (1, 0), (2, 1), (3, 0), (4, 0), (5, 0), (6, 0), (7, 0), (8, 1), (9, 0), (10, 0), (11, 0), (12, 0), (13, 3)] 3 tab (LFok.cons a1 (LFok.cons a2 (LFok.nil _ _))) (by kernel_rfl) rfl hF hH (by kernel_rfl) rfl (by first | exact trivial | (simp only [All, inK_i64, inK_u64, inK_u32, inK_u8, inK_i32, max_i64, max_u64, IntKind.bits, Int.reduceToNat, Int.reduceAdd, Nat.reducePow, Int.reducePow, and_true, true_and, and_self] <;> omega)) ?_
      intro A w hF hH
      refine dr_act (k := 14) (by kernel_rfl) rfl hF rfl ?_
      refine op_call hF rfl rfl rfl rfl rfl rfl isF37 (order_calls x y hH) ?_
      rintro e w ⟨rfl, hH⟩
      refine ⟨_, rfl, fun A hF => ?_⟩
      refine ⟨fun _ => Keeps.of hH (K.le.refl _), ?_⟩
      by_cases ho : ordF x y < 0
      · refine dr_more [] [row b (((X ++ (P' ++ [y])) ++ x :: T).flatMap jenc ++ junk) 40] [(15, 1), (16, 0)] 0 (K.le.refl _) tab (LFok.nil _ _) (by kernel_rfl) rfl hF hH (by kernel_rfl) rfl (by first | exact trivial | (simp only [All, inK_i64, inK_u64, inK_u32, inK_u8, inK_i32, max_i64, max_u64, IntKind.bits, Int.reduceToNat, Int.reduceAdd, Nat.reducePow, Int.reducePow, and_true, true_and, and_self] <;> omega)) ?_
        intro A hF
        refine dr_done (by kernel_rfl) ?_ _
        refine cond_t hF rfl rfl ?_
        refine wp_skip ?_
        refine wp_seq ?_
        refine wp_block ?_
        refine dr_reads (by kernel_rfl) [] [row b (((X ++ (P' ++ [y])) ++ x :: T).flatMap jenc ++ junk) 40] [15, 16, 17] [(0, 0), (1, 0), (2, 0), (3, 0), (4, 0), (5, 0), (6, 0), (7, 0), (8, 0), (9, 3), (10, 0), (11, 0), (12, 0), (13, 1), (14, 0)] 3 tab (LFok.cons a1 (LFok.cons a2 (LFok.nil _ _))) (by kernel_rfl) rfl hF hH (by kernel_rfl) rfl (by first | exact trivial | (simp only [All, inK_i64, inK_u64, inK_u32, inK_u8, inK_i32, max_i64, max_u64, IntKind.bits, Int.reduceToNat, Int.reduceAdd, Nat.reducePow, Int.reducePow, and_true, true_and, and_self] <;> omega)) ?_
        intro A w hF hH
        refine dr_act (k := 15) (by kernel_rfl) rfl hF rfl ?_
        refine op_storeS hF tab rfl rfl rfl rfl rfl rfl (by rw [lenJ]; show 0 + ((a : Int) + ((j' + 1 : Nat) : Int)).toNat * 5 + 5 ≤ _; simp; omega) hH ?_
        intro A w hF hH
        refine ⟨(fun h => absurd h (by decide)), ?_⟩
        have hH := putM (off := 0 + ((a : Int) + ((j' + 1 : Nat) : Int)).toNat * 5) (q := y) (X ++ (P' ++ [y])) T (by simp; omega) hH
        rw [e2] at hH
        refine dr_act (k := 16) (by kernel_rfl) rfl hF rfl ?_
        refine op_ev (h := 0) (M := []) hF tab hH rfl (by first | exact trivial | (simp only [All, inK_i64, inK_u64, inK_u32, inK_u8, inK_i32, max_i64, max_u64, IntKind.bits, Int.reduceToNat, Int.reduceAdd, Nat.reducePow, Int.reducePow, and_true, true_and, and_self] <;> omega)) rfl ?_
        intro A w hF hH
        refine ⟨fun h => absurd h (by decide), ?_⟩
        refine dr_act (k := 17) (by kernel_rfl) rfl hF rfl ?_
        refine op_storeS hF tab rfl rfl rfl rfl rfl rfl (by rw [lenJ]; show 0 + ((a : Int) + ((j' + 1 : Nat) : Int) - 1).toNat * 5 + 5 ≤ _; simp; omega) hH ?_
        intro A w hF hH
        refine ⟨(fun h => absurd h (by decide)), ?_⟩
        refine dr_done (by kernel_rfl) ?_ _
        refine wp_region_lit ?_
        have hH := putM (off := 0 + ((a : Int) + ((j' + 1 : Nat) : Int) - 1).toNat * 5) (q := x) (X ++ P') (y :: T) (by simp; omega) hH
        refine ev0 [0, 0, 0] tab hF hH rfl (by first | exact trivial | (simp only [All, inK_i64, inK_u64, inK_u32, inK_u8, inK_i32, max_i64, max_u64, IntKind.bits, Int.reduceToNat, Int.reduceAdd, Nat.reducePow, Int.reducePow, and_true, true_and, and_self] <;> omega)) ?_
        intro A w hF hH
        simp only [hj1] at hF
        refine wpList_nil ?_
        exact ⟨j', ⟨⟨P', y :: Q, by rw [← hPQ]; simp, hP', fun q hq => by
          rcases List.mem_cons.1 hq with rfl | hq
          · exact ord_lt _ _ ho
          · exact hxQ q hq, by rw [← hT] at hH; simpa using hH⟩, Fr.to hF ⟨rfl, rfl, rfl, rfl, rfl, rfl, trivial⟩⟩, by omega⟩
      · skip
        refine dr_more [] [row b (((X ++ (P' ++ [y])) ++ x :: T).flatMap jenc ++ junk) 40] [(15, 2), (16, 0)] 0 (K.le.refl _) tab (LFok.nil _ _) (by kernel_rfl) rfl hF hH (by kernel_rfl) rfl (by first | exact trivial | (simp only [All, inK_i64, inK_u64, inK_u32, inK_u8, inK_i32, max_i64, max_u64, IntKind.bits, Int.reduceToNat, Int.reduceAdd, Nat.reducePow, Int.reducePow, and_true, true_and, and_self] <;> omega)) ?_
        intro A hF
        refine dr_done (by kernel_rfl) ?_ _
        refine cond_f hF rfl rfl ?_
        refine wp_exit ?_
        repeat (first | refine then_exit ?_ | refine ng_exit ?_ | refine blk_exit ?_ | refine blk_exit_ne rfl ?_)
        refine wp_region_lit ?_
        refine ev0 [0, 0, 0] tab hF hH rfl (by first | exact trivial | (simp only [All, inK_i64, inK_u64, inK_u32, inK_u8, inK_i32, max_i64, max_u64, IntKind.bits, Int.reduceToNat, Int.reduceAdd, Nat.reducePow, Int.reducePow, and_true, true_and, and_self] <;> omega)) ?_
        intro A w hF hH
        simp only [Int.add_assoc] at hF
        refine wpList_nil ?_
        refine fin A w (fun z hz => ?_) hH (Fr.to hF ⟨rfl, rfl, rfl, rfl, rfl, trivial⟩)
        have hyx := (ord_le y x).1 ho
        rcases List.mem_append.1 hz with hz | hz
        · have h0 := hsrt
          rw [← hPQ] at h0
          unfold Srt at h0
          have h1 := (List.pairwise_append.1 h0).1
          have h2 := (List.pairwise_append.1 h1).2.2 z hz y (by simp)
          exact leP_trans h2 hyx
        · simp at hz; subst hz; exact hyx
  · skip
    refine ev0 [0, 0, 2] tab hF hH rfl (by first | exact trivial | (simp only [All, inK_i64, inK_u64, inK_u32, inK_u8, inK_i32, max_i64, max_u64, IntKind.bits, Int.reduceToNat, Int.reduceAdd, Nat.reducePow, Int.reducePow, and_true, true_and, and_self] <;> omega)) ?_
    intro A w hF hH
    refine wpList_nil ?_
    refine cond_f hF rfl rfl ?_
    refine wp_exit ?_
    repeat (first | refine then_exit ?_ | refine ng_exit ?_ | refine blk_exit ?_ | refine blk_exit_ne rfl ?_)
    refine fin (M := []) (hs := []) tab hF hH rfl (by first | exact trivial | (simp only [All, inK_i64, inK_u64, inK_u32, inK_u8, inK_i32, max_i64, max_u64, IntKind.bits, Int.reduceToNat, Int.reduceAdd, Nat.reducePow, Int.reducePow, and_true, true_and, and_self] <;> omega)) ?_
    have hR : R = [] := List.eq_nil_of_length_eq_zero (by omega)
    subst hR
    rw [List.append_nil] at hperm hH
    exact ⟨rfl, S, hperm, hsrt, hH⟩
end
end Go.Proofs.Try
