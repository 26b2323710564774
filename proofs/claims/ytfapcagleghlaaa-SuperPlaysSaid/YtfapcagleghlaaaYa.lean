/- Rows of jobs: elements turned, ranges swapped, blocks rotated. -/
import Derived.Test.YtfapcagleghlaaaSd
set_option linter.all false
namespace Go.Proofs.Try
open Go Go.Sep

theorem flatJ_len (js : List Prt) : (js.flatMap jenc).length = js.length * 5 := by
  induction js with
  | nil => rfl
  | cons p l ih => rw [List.flatMap_cons, List.length_append, ih, List.length_cons, Nat.succ_mul]; simp [jenc]; omega
theorem lenJ (js : List Prt) (junk : List Value) : (js.flatMap jenc ++ junk).length = js.length * 5 + junk.length := by rw [List.length_append, flatJ_len]
theorem putJ {κ : K} {w : World} {C : List HP} {b off : Nat} {js : List Prt} {junk : List Value} {q : Prt} (k : Nat) (hk : k < js.length) (e : off = k * 5) (hH : Hp κ w (row b (putL (js.flatMap jenc ++ junk) off (jenc q)) 40 :: C)) :
    Hp κ w (row b ((js.set k q).flatMap jenc ++ junk) 40 :: C) := by
  have e1 : js.flatMap jenc ++ junk = (js.take k).flatMap jenc ++ (jenc js[k] ++ ((js.drop (k + 1)).flatMap jenc ++ junk)) := by
    have e : js = js.take k ++ js[k] :: js.drop (k + 1) := by rw [← List.drop_eq_getElem_cons hk, List.take_append_drop]
    have := congrArg (fun l => l.flatMap jenc ++ junk) e
    simp only [List.flatMap_append, List.flatMap_cons, List.append_assoc] at this
    exact this
  have e2 : (js.set k q).flatMap jenc ++ junk = (js.take k).flatMap jenc ++ (jenc q ++ ((js.drop (k + 1)).flatMap jenc ++ junk)) := by
    have h' : k < (js.set k q).length := by simpa using hk
    have e : js.set k q = js.take k ++ q :: js.drop (k + 1) := by
      rw [List.set_eq_take_append_cons_drop, if_pos hk]
    rw [e]
    simp only [List.flatMap_append, List.flatMap_cons, List.append_assoc]
  have e3 : off = ((js.take k).flatMap jenc).length + 0 := by rw [flatJ_len, List.length_take, Nat.min_eq_left (by omega)]; omega
  rw [e1, e3, putL_app] at hH
  rw [e2]
  exact hH
theorem getJ (js : List Prt) (junk : List Value) (i off : Nat) (h : i < js.length) (e : off = i * 5) : ∀ j u, (jenc js[i])[j]? = some u → (js.flatMap jenc ++ junk)[off + j]? = some u := by
  intro j u hu
  have := flatMap_get (enc := jenc) (sz := 5) (xs := js) (fun _ _ => rfl) i h j u hu
  have hl : i * 5 + j < (js.flatMap jenc).length := by
    rcases Nat.lt_or_ge (i * 5 + j) (js.flatMap jenc).length with g | g
    · exact g
    · rw [List.getElem?_eq_none g] at this; cases this
  rw [e, List.getElem?_append_left hl]; exact this
/-- Two elements change places. -/
def swp (js : List Prt) (i j : Nat) : List Prt := (js.set i (js.getD j zeroJ)).set j (js.getD i zeroJ)
theorem swp_len (js : List Prt) (i j : Nat) : (swp js i j).length = js.length := by simp [swp]
def swapF (js : List Prt) (a c : Nat) : Nat → List Prt
  | 0 => js
  | n + 1 => swp (swapF js a c n) (a + n) (c + n)
theorem swapF_len (js : List Prt) (a c : Nat) : ∀ n, (swapF js a c n).length = js.length
  | 0 => rfl
  | n + 1 => by rw [swapF, swp_len, swapF_len js a c n]
theorem getD_eq (js : List Prt) (i : Nat) (h : i < js.length) : js.getD i zeroJ = js[i] := by simp [List.getD, h]
theorem swp_mid (L1 L2 L3 : List Prt) (p q : Prt) (i j : Nat) (hi : i = L1.length) (hj : j = L1.length + 1 + L2.length) : swp (L1 ++ p :: (L2 ++ q :: L3)) i j = L1 ++ q :: (L2 ++ p :: L3) := by
  subst hi; subst hj
  have g1 : (L1 ++ p :: (L2 ++ q :: L3)).getD L1.length zeroJ = p := by simp [List.getD]
  have g2 : (L1 ++ p :: (L2 ++ q :: L3)).getD (L1.length + 1 + L2.length) zeroJ = q := by
    simp only [List.getD]
    rw [List.getElem?_append_right (by omega), show L1.length + 1 + L2.length - L1.length = L2.length + 1 from by omega, List.getElem?_cons_succ, List.getElem?_append_right (by omega), Nat.sub_self]
    rfl
  unfold swp
  rw [g1, g2, List.set_append_right _ _ (Nat.le_refl _), Nat.sub_self, List.set_cons_zero, List.set_append_right _ _ (by omega), show L1.length + 1 + L2.length - L1.length = L2.length + 1 from by omega,
    List.set_cons_succ, List.set_append_right _ _ (Nat.le_refl _), Nat.sub_self, List.set_cons_zero]
theorem swapF_blocks : ∀ (n : Nat) (X A M B Y : List Prt), A.length = n → B.length = n → swapF (X ++ A ++ M ++ B ++ Y) X.length (X.length + A.length + M.length) n = X ++ B ++ M ++ A ++ Y := by
  intro n X A M B Y hA hB
  have key : ∀ k, k ≤ n → swapF (X ++ A ++ M ++ B ++ Y) X.length (X.length + A.length + M.length) k = X ++ (B.take k ++ A.drop k) ++ M ++ (A.take k ++ B.drop k) ++ Y := by
    intro k
    induction k with
    | zero => intro _; simp [swapF]
    | succ k ih =>
      intro hk
      rw [swapF, ih (by omega)]
      have ha : k < A.length := by omega
      have hb : k < B.length := by omega
      rw [List.drop_eq_getElem_cons ha, List.drop_eq_getElem_cons hb]
      have := swp_mid (X ++ B.take k) (A.drop (k + 1) ++ M ++ A.take k) (B.drop (k + 1) ++ Y) A[k] B[k] (X.length + k) (X.length + A.length + M.length + k)
        (by simp; omega) (by simp; omega)
      simp only [List.append_assoc, List.cons_append] at this ⊢
      rw [this]
      have e1 : B.take (k + 1) = B.take k ++ [B[k]] := by rw [List.take_add_one, List.getElem?_eq_getElem hb]; rfl
      have e2 : A.take (k + 1) = A.take k ++ [A[k]] := by rw [List.take_add_one, List.getElem?_eq_getElem ha]; rfl
      rw [e1, e2]
      simp only [List.append_assoc, List.cons_append, List.nil_append]
  have := key n (Nat.le_refl _)
  rw [List.take_of_length_le (by omega), List.take_of_length_le (by omega), List.drop_eq_nil_of_le (by omega), List.drop_eq_nil_of_le (by omega)] at this
  simpa using this
section
variable {κ : K} {w : World} {C : List HP}
set_option maxRecDepth 20000 in
theorem swapr_calls {b cap a c n : Nat} {F : Value} (js : List Prt) (junk : List Value) (hac : a + n ≤ c) (hc : c + n ≤ js.length) (hcap : js.length ≤ cap) (hl : js.length ≤ 1000000)
    (hH : Hp κ w (row b (js.flatMap jenc ++ junk) 40 :: C)) : Calls Try.prog 90 #[.slice (some ⟨b, 0, none⟩) js.length cap, .int .i64 a, .int .i64 c, .int .i64 n, F] w
    (fun e w' => e = .returned (.tuple #[]) ∧ Hp κ w' (row b ((swapF js a c n).flatMap jenc ++ junk) 40 :: C)) := by
  refine enter (args := [.slice (some ⟨b, 0, none⟩) js.length cap, .int .i64 a, .int .i64 c, .int .i64 n, F]) Try.func90 rfl rfl ?_
  intro A hF
  refine wp_seq ?_
  refine wp_region_lit ?_
  refine ev0 [0] tab hF hH rfl (by first | exact trivial | (simp only [All, inK_i64, inK_u64, inK_u32, inK_u8, inK_i32, max_i64, max_u64, IntKind.bits, Int.reduceToNat, Int.reduceAdd, Nat.reducePow, Int.reducePow, and_true, true_and, and_self] <;> omega)) ?_
  intro A w hF hH
  refine wpList_nil ?_
  refine wp_block ?_
  refine loop_j (fun (k : Nat) A w => k ≤ n ∧ Fr 38 A [(10, .int .i64 k), (0, .slice (some ⟨b, 0, none⟩) js.length cap), (1, .int .i64 a), (2, .int .i64 c), (3, .int .i64 n)] ∧ Hp κ w (row b ((swapF js a c k).flatMap jenc ++ junk) 40 :: C)) (fun k => n - k) 0 ⟨Nat.zero_le _, Fr.to hF ⟨rfl, rfl, rfl, rfl, rfl, trivial⟩, hH⟩ ?_
  rintro k A w ⟨hk, hF, hH⟩
  refine wp_seq ?_
  refine wp_seq ?_
  refine wp_region_lit ?_
  by_cases hlt : k < n
  · refine ev0 [0, 0, 1] tab hF hH rfl (by first | exact trivial | (simp only [All, inK_i64, inK_u64, inK_u32, inK_u8, inK_i32, max_i64, max_u64, IntKind.bits, Int.reduceToNat, Int.reduceAdd, Nat.reducePow, Int.reducePow, and_true, true_and, and_self] <;> omega)) ?_
    intro A w hF hH
    refine wpList_nil ?_
    refine cond_t hF rfl rfl ?_
    refine wp_skip ?_
    refine wp_seq ?_
    refine wp_block ?_
    have hjl := swapF_len js a c k
    have h1 : a + k < (swapF js a c k).length := by omega
    have h2 : c + k < (swapF js a c k).length := by omega
    have d1 := getD_eq _ _ h1
    have d2 := getD_eq _ _ h2
    have hsw : swapF js a c (k + 1) = ((swapF js a c k).set (a + k) (swapF js a c k)[c + k]).set (c + k) (swapF js a c k)[a + k] := by
      rw [swapF, swp, d1, d2]
    have a1 := At.own (κ := κ) (X := [row b ((swapF js a c k).flatMap jenc ++ junk) 40]) (off := (c + k) * 5) (vs := jenc (swapF js a c k)[c + k]) 0 rfl (getJ _ junk _ _ h2 rfl)
    have a2 := At.own (κ := κ) (X := [row b ((swapF js a c k).flatMap jenc ++ junk) 40]) (off := (a + k) * 5) (vs := jenc (swapF js a c k)[a + k]) 0 rfl (getJ _ junk _ _ h1 rfl)
    generalize (swapF js a c k)[c + k] = q at *
    generalize (swapF js a c k)[a + k] = p at *
    generalize swapF js a c k = cur at *
    refine dr_reads (by kernel_rfl) [] [row b (cur.flatMap jenc ++ junk) 40] [21, 22, 23] [(0, 0), (1, 0), (2, 0), (3, 0), (4, 0), (5, 0), (6, 0), (7, 0), (8, 0), (9, 0), (10, 0), (11, 0), (12, 0), (13, 1), (14, 0), (15, 0), (16, 0), (17, 0), (18, 0), (19, 3), (20, 0)] 3 tab (LFok.cons a1 (LFok.cons a2 (LFok.nil _ _))) (by kernel_rfl) rfl hF hH (by kernel_rfl) rfl (by first | exact trivial | (simp only [All, inK_i64, inK_u64, inK_u32, inK_u8, inK_i32, max_i64, max_u64, IntKind.bits, Int.reduceToNat, Int.reduceAdd, Nat.reducePow, Int.reducePow, and_true, true_and, and_self] <;> omega)) ?_
    intro A w hF hH
    refine dr_act (k := 21) (by kernel_rfl) rfl hF rfl ?_
    refine op_storeS hF tab rfl rfl rfl rfl rfl rfl (by rw [lenJ]; show 0 + ((a : Int) + k).toNat * 5 + 5 ≤ _; omega) hH ?_
    intro A w hF hH
    refine ⟨(fun h => absurd h (by decide)), ?_⟩
    have hH := putJ (off := 0 + ((a : Int) + k).toNat * 5) (q := q) (a + k) h1 (by omega) hH
    refine dr_act (k := 22) (by kernel_rfl) rfl hF rfl ?_
    refine op_ev (h := 0) (M := []) hF tab hH rfl (by first | exact trivial | (simp only [All, inK_i64, inK_u64, inK_u32, inK_u8, inK_i32, max_i64, max_u64, IntKind.bits, Int.reduceToNat, Int.reduceAdd, Nat.reducePow, Int.reducePow, and_true, true_and, and_self] <;> omega)) rfl ?_
    intro A w hF hH
    refine ⟨fun h => absurd h (by decide), ?_⟩
    refine dr_act (k := 23) (by kernel_rfl) rfl hF rfl ?_
    refine op_storeS hF tab rfl rfl rfl rfl rfl rfl (by rw [lenJ]; show 0 + ((c : Int) + k).toNat * 5 + 5 ≤ _; simp only [List.length_set]; omega) hH ?_
    intro A w hF hH
    refine ⟨(fun h => absurd h (by decide)), ?_⟩
    refine dr_done (by kernel_rfl) ?_ _
    refine wp_region_lit ?_
    have hH := putJ (off := 0 + ((c : Int) + k).toNat * 5) (q := p) (c + k) (by simpa using h2) (by omega) hH
    rw [← hsw] at hH
    refine ev0 [0, 0, 0] tab hF hH rfl (by first | exact trivial | (simp only [All, inK_i64, inK_u64, inK_u32, inK_u8, inK_i32, max_i64, max_u64, IntKind.bits, Int.reduceToNat, Int.reduceAdd, Nat.reducePow, Int.reducePow, and_true, true_and, and_self] <;> omega)) ?_
    intro A w hF hH
    refine wpList_nil ?_
    exact ⟨k + 1, ⟨by omega, Fr.to hF ⟨rfl, rfl, rfl, rfl, rfl, trivial⟩, hH⟩, by omega⟩
  · skip
    refine ev0 [0, 0, 2] tab hF hH rfl (by first | exact trivial | (simp only [All, inK_i64, inK_u64, inK_u32, inK_u8, inK_i32, max_i64, max_u64, IntKind.bits, Int.reduceToNat, Int.reduceAdd, Nat.reducePow, Int.reducePow, and_true, true_and, and_self] <;> omega)) ?_
    intro A w hF hH
    refine wpList_nil ?_
    refine cond_f hF rfl rfl ?_
    refine wp_exit ?_
    repeat (first | refine then_exit ?_ | refine ng_exit ?_ | refine blk_exit ?_ | refine blk_exit_ne rfl ?_)
    have e : k = n := by omega
    subst e
    refine fin (M := []) (hs := []) tab hF hH rfl (by first | exact trivial | (simp only [All, inK_i64, inK_u64, inK_u32, inK_u8, inK_i32, max_i64, max_u64, IntKind.bits, Int.reduceToNat, Int.reduceAdd, Nat.reducePow, Int.reducePow, and_true, true_and, and_self] <;> omega)) ?_
    exact ⟨rfl, hH⟩
end
end Go.Proofs.Try
