/- Contracts of the supertask's functions: the next job, what is missed, a new one. -/
import Derived.Test.YtfapcagleghlaaaSa
set_option linter.all false
namespace Go.Proofs.Try
open Go Go.Sep

theorem putL_app (A x : List Value) (k : Nat) : ∀ vs : List Value, putL (A ++ x) (A.length + k) vs = A ++ putL x k vs := by
  intro vs
  induction vs generalizing x k with
  | nil => rfl
  | cons v vs ih =>
    simp only [putL, setL_eq]
    rw [List.set_append_right _ _ (by omega), show A.length + k - A.length = k from by omega, Nat.add_assoc]
    exact ih _ _
theorem get_app (A x : List Value) (k : Nat) {v : Value} (h : x[k]? = some v) : (A ++ x)[A.length + k]? = some v := by
  rw [List.getElem?_append_right (by omega), show A.length + k - A.length = k from by omega]; exact h
theorem upd {κ : K} {w : World} {C : List HP} {b t : Nat} {x x' vs : List Value} (A : List Value) (k : Nat) (e : putL x k vs = x') (hH : Hp κ w (row b (putL (A ++ x) (A.length + k) vs) t :: C)) : Hp κ w (row b (A ++ x') t :: C) := by
  rw [putL_app, e] at hH; exact hH
def nextP (p : Prt) : Prt := { p with idx := p.idx + 1, rel := p.dl, dl := p.dl + p.P, left := p.E }
def stepP (p : Prt) : Prt := if p.left - 1 = 0 then nextP p else { p with left := p.left - 1 }
/-- A part whose numbers are not too great. -/
structure PFit (p : Prt) : Prop where
  E1 : 1 ≤ p.E
  EP : p.E ≤ p.P
  P24 : p.P ≤ 24
  idx0 : 0 ≤ p.idx
  idx1 : p.idx ≤ 1125899906842624
  rel0 : 0 ≤ p.rel
  rel1 : p.rel ≤ 1125899906842624
  dl0 : 0 ≤ p.dl
  dl1 : p.dl ≤ 1125899906842624
  left0 : 0 ≤ p.left
  left1 : p.left ≤ 24
section
variable {κ : K} {w : World} {C : List HP}
set_option maxRecDepth 20000 in
theorem next_calls {b : Nat} (Z B : List Value) (p : Prt) (hp : PFit p) (hH : Hp κ w (row b (Z ++ (penc p ++ B)) 74 :: C)) :
    Calls Try.prog 38 #[.pointer (some ⟨b, Z.length, none⟩)] w (fun e w' => e = .returned (.tuple #[]) ∧ Hp κ w' (row b (Z ++ (penc (nextP p) ++ B)) 74 :: C)) := by
  obtain ⟨E, P, k, idx, rel, dl, left⟩ := p
  obtain ⟨h1, h2, h3, h4, h5, h6, h7, h8, h9, h10, h11⟩ := hp
  simp only at h1 h2 h3 h4 h5 h6 h7 h8 h9 h10 h11
  refine enter (args := [.pointer (some ⟨b, Z.length, none⟩)]) Try.func38 rfl rfl ?_
  intro A hF
  refine wp_seq ?_
  refine wp_region_lit ?_
  refine evF [] [row b (Z ++ (penc ⟨E, P, k, idx, rel, dl, left⟩ ++ B)) 74] (LFok.cons (At.own (off := Z.length + 3) (vs := [.int .i64 idx]) 0 rfl (own1 (get_app Z _ 3 rfl))) (LFok.nil _ _)) [0, 0, 0, 0, 1, 0, 0, 0, 0] tab hF hH rfl (by first | exact trivial | (simp only [All, inK_i64, inK_u64, inK_u32, inK_u8, inK_i32, max_i64, max_u64, IntKind.bits, Int.reduceToNat, Int.reduceAdd, Nat.reducePow, Int.reducePow, and_true, true_and, and_self] <;> omega)) ?_
  intro A w hF hH
  refine list_act hF rfl ?_
  refine op_storeS hF tab rfl rfl rfl rfl rfl rfl (by simp [penc]; omega) hH ?_
  intro A w hF hH
  refine wpList_nil ?_
  refine wp_seq ?_
  refine wp_region_lit ?_
  have hH := upd Z (x' := penc ⟨E, P, k, idx + 1, rel, dl, left⟩ ++ B) 3 rfl hH
  refine evF [] [row b (Z ++ (penc ⟨E, P, k, idx + 1, rel, dl, left⟩ ++ B)) 74] (LFok.cons (At.own (off := Z.length + 5) (vs := [.int .i64 dl]) 0 rfl (own1 (get_app Z _ 5 rfl))) (LFok.nil _ _)) [0, 0, 0, 0, 0, 1, 0, 0, 0] tab hF hH rfl (by first | exact trivial | (simp only [All, inK_i64, inK_u64, inK_u32, inK_u8, inK_i32, max_i64, max_u64, IntKind.bits, Int.reduceToNat, Int.reduceAdd, Nat.reducePow, Int.reducePow, and_true, true_and, and_self] <;> omega)) ?_
  intro A w hF hH
  refine list_act hF rfl ?_
  refine op_storeS hF tab rfl rfl rfl rfl rfl rfl (by simp [penc]; omega) hH ?_
  intro A w hF hH
  refine wpList_nil ?_
  refine wp_seq ?_
  have hH := upd Z (x' := penc ⟨E, P, k, idx + 1, dl, dl, left⟩ ++ B) 4 rfl hH
  refine dr_reads (by kernel_rfl) [] [row b (Z ++ (penc ⟨E, P, k, idx + 1, dl, dl, left⟩ ++ B)) 74] [14] [(0, 0), (1, 0), (2, 0), (3, 0), (4, 1), (5, 0), (6, 0), (7, 0), (8, 0), (9, 3), (10, 0), (11, 0), (12, 0), (13, 0)] 1 tab (LFok.cons (At.own (off := Z.length + 5) (vs := [.int .i64 dl]) 0 rfl (own1 (get_app Z _ 5 rfl))) (LFok.cons (At.own (off := Z.length + 1) (vs := [.int .i64 P]) 0 rfl (own1 (get_app Z _ 1 rfl))) (LFok.nil _ _))) (by kernel_rfl) rfl hF hH (by kernel_rfl) rfl (by first | exact trivial | (simp only [All, inK_i64, inK_u64, inK_u32, inK_u8, inK_i32, max_i64, max_u64, IntKind.bits, Int.reduceToNat, Int.reduceAdd, Nat.reducePow, Int.reducePow, and_true, true_and, and_self] <;> omega)) ?_
  intro A w hF hH
  refine dr_act (k := 14) (by kernel_rfl) rfl hF rfl ?_
  refine op_storeS hF tab rfl rfl rfl rfl rfl rfl (by simp [penc]; omega) hH ?_
  intro A w hF hH
  refine ⟨(fun h => absurd h (by decide)), ?_⟩
  refine dr_done (by kernel_rfl) ?_ _
  refine wp_region_lit ?_
  have hH := upd Z (x' := penc ⟨E, P, k, idx + 1, dl, dl + P, left⟩ ++ B) 5 rfl hH
  refine evF [] [row b (Z ++ (penc ⟨E, P, k, idx + 1, dl, dl + P, left⟩ ++ B)) 74] (LFok.cons (At.own (off := Z.length + 0) (vs := [.int .i64 E]) 0 rfl (own1 (get_app Z _ 0 rfl))) (LFok.nil _ _)) [0, 0, 0, 0, 0, 1, 0, 0, 0] tab hF hH rfl (by first | exact trivial | (simp only [All, inK_i64, inK_u64, inK_u32, inK_u8, inK_i32, max_i64, max_u64, IntKind.bits, Int.reduceToNat, Int.reduceAdd, Nat.reducePow, Int.reducePow, and_true, true_and, and_self] <;> omega)) ?_
  intro A w hF hH
  refine list_act hF rfl ?_
  refine op_storeS hF tab rfl rfl rfl rfl rfl rfl (by simp [penc]; omega) hH ?_
  intro A w hF hH
  refine wpList_nil ?_
  have hH := upd Z (x' := penc ⟨E, P, k, idx + 1, dl, dl + P, E⟩ ++ B) 6 rfl hH
  refine fin (M := []) (hs := []) tab hF hH rfl (by first | exact trivial | (simp only [All, inK_i64, inK_u64, inK_u32, inK_u8, inK_i32, max_i64, max_u64, IntKind.bits, Int.reduceToNat, Int.reduceAdd, Nat.reducePow, Int.reducePow, and_true, true_and, and_self] <;> omega)) ?_
  exact ⟨rfl, hH⟩
def misP (at_ : Int) (p : Prt) : Int := if p.dl ≤ at_ then p.left + (at_ - p.dl) / p.P * p.E else 0
def misL (at_ : Int) : List Prt → Int
  | [] => 0
  | p :: ps => misP at_ p + misL at_ ps
def missedF (S : Sup) (at_ : Int) : Int := if S.last ≤ at_ ∧ at_ ≤ 1099511627776 then misL at_ S.ps else 0
theorem misP_range {at_ : Int} {p : Prt} (hp : PFit p) (h1 : at_ ≤ 1099511627776) : 0 ≤ misP at_ p ∧ misP at_ p ≤ 26388279066648 := by
  obtain ⟨E1, EP, P24, i0, i1, r0, r1, d0, d1, l0, l1⟩ := hp
  unfold misP
  split
  · have a1 : 0 ≤ (at_ - p.dl) / p.P := Int.ediv_nonneg (by omega) (by omega)
    have a2 : (at_ - p.dl) / p.P ≤ at_ - p.dl := Int.ediv_le_self _ (by omega)
    have a3 : (at_ - p.dl) / p.P * p.E ≤ 1099511627776 * 24 := Int.mul_le_mul (by omega) (by omega) (by omega) (by omega)
    have a4 : 0 ≤ (at_ - p.dl) / p.P * p.E := Int.mul_nonneg a1 (by omega)
    omega
  · omega
theorem misL_range {at_ : Int} (h1 : at_ ≤ 1099511627776) : ∀ ps : List Prt, (∀ p ∈ ps, PFit p) → 0 ≤ misL at_ ps ∧ misL at_ ps ≤ 26388279066648 * ps.length := by
  intro ps
  induction ps with
  | nil => intro _; simp [misL]
  | cons p ps ih =>
    intro h
    have a := misP_range (h p (List.mem_cons_self ..)) h1
    have b := ih fun q hq => h q (List.mem_cons_of_mem _ hq)
    simp only [misL, List.length_cons]
    omega
theorem flatMap_penc_get (ps : List Prt) (i : Nat) (h : i < ps.length) (junk : List Value) : ∀ j u, (penc ps[i])[j]? = some u → (ps.flatMap penc ++ junk)[0 + i * 7 + j]? = some u := by
  intro j u hu
  have := flatMap_get (enc := penc) (sz := 7) (xs := ps) (fun _ _ => rfl) i h j u hu
  have hl : i * 7 + j < (ps.flatMap penc).length := by
    rcases Nat.lt_or_ge (i * 7 + j) (ps.flatMap penc).length with g | g
    · exact g
    · rw [List.getElem?_eq_none g] at this; cases this
  rw [Nat.zero_add, List.getElem?_append_left hl]; exact this
set_option maxRecDepth 20000 in
theorem missed_calls {s : Nat} {S : Sup} (at_ : Int) (hp : ∀ p ∈ S.ps, PFit p) (hl : S.ps.length ≤ 8) (hH : Hp κ w (sup s S :: C)) : Calls Try.prog 13 #[.pointer (some ⟨s, 0, none⟩), .int .i64 at_] w (fun e w' => e = .returned (.int .i64 (missedF S at_)) ∧ Hp κ w' (sup s S :: C)) := by
  refine enter (args := [.pointer (some ⟨s, 0, none⟩), .int .i64 at_]) Try.func13 rfl rfl ?_
  intro A hF
  refine wp_seq ?_
  refine wp_region_lit ?_
  refine ev0 [0] tab hF hH rfl (by first | exact trivial | (simp only [All, inK_i64, inK_u64, inK_u32, inK_u8, inK_i32, max_i64, max_u64, IntKind.bits, Int.reduceToNat, Int.reduceAdd, Nat.reducePow, Int.reducePow, and_true, true_and, and_self] <;> omega)) ?_
  intro A w hF hH
  refine wpList_nil ?_
  refine wp_seq ?_
  refine wp_region_lit ?_
  refine ev0 [0] tab hF hH rfl (by first | exact trivial | (simp only [All, inK_i64, inK_u64, inK_u32, inK_u8, inK_i32, max_i64, max_u64, IntKind.bits, Int.reduceToNat, Int.reduceAdd, Nat.reducePow, Int.reducePow, and_true, true_and, and_self] <;> omega)) ?_
  intro A w hF hH
  refine wpList_nil ?_
  refine wp_seq ?_
  refine wp_seq ?_
  refine wp_region_lit ?_
  refine ev0 [0, 0] tab hF hH rfl (by first | exact trivial | (simp only [All, inK_i64, inK_u64, inK_u32, inK_u8, inK_i32, max_i64, max_u64, IntKind.bits, Int.reduceToNat, Int.reduceAdd, Nat.reducePow, Int.reducePow, and_true, true_and, and_self] <;> omega)) ?_
  intro A w hF hH
  refine list_act hF rfl ?_
  refine op_call hF rfl rfl rfl rfl rfl rfl isF36 (slot_calls at_ hH) ?_
  rintro e w ⟨rfl, hH⟩
  refine ⟨_, rfl, fun A hF => ?_⟩
  by_cases hs : S.last ≤ at_ ∧ at_ ≤ 1099511627776
  · rw [show decide (S.last ≤ at_ ∧ at_ ≤ 1099511627776) = true from by simpa using hs] at hF
    have hsl := hs.2
    refine ev0 [0] tab hF hH rfl (by first | exact trivial | (simp only [All, inK_i64, inK_u64, inK_u32, inK_u8, inK_i32, max_i64, max_u64, IntKind.bits, Int.reduceToNat, Int.reduceAdd, Nat.reducePow, Int.reducePow, and_true, true_and, and_self] <;> omega)) ?_
    intro A w hF hH
    refine wpList_nil ?_
    refine cond_f hF rfl rfl ?_
    refine wp_skip ?_
    refine wp_seq ?_
    refine wp_seq ?_
    refine wp_region_lit ?_
    obtain ⟨b, cap, junk, hcap, hH⟩ := sup_open hH
    refine evM [⟨s, [.slice (some ⟨b, 0, none⟩) S.ps.length cap, .int .i64 S.last, .int .i64 S.served, .int .i64 S.idle], 72⟩] [0, 0, 0, 0, 0, 0] tab hF hH rfl (by first | exact trivial | (simp only [All, inK_i64, inK_u64, inK_u32, inK_u8, inK_i32, max_i64, max_u64, IntKind.bits, Int.reduceToNat, Int.reduceAdd, Nat.reducePow, Int.reducePow, and_true, true_and, and_self] <;> omega)) ?_
    intro A w hF hH
    refine wpList_nil ?_
    refine wp_block ?_
    refine loop_j (fun (i : Nat) A w => i ≤ S.ps.length ∧ ∃ q, 0 ≤ q ∧ q + misL at_ (S.ps.drop i) = misL at_ S.ps ∧ Fr 48 A [(18, .int .i64 i), (17, .int .i64 S.ps.length), (16, .slice (some ⟨b, 0, none⟩) S.ps.length cap), (5, .int .i64 q), (1, .int .i64 at_)] ∧ Hp κ w (row s [.slice (some ⟨b, 0, none⟩) S.ps.length cap, .int .i64 S.last, .int .i64 S.served, .int .i64 S.idle] 72 :: row b (S.ps.flatMap penc ++ junk) 74 :: C)) (fun i => S.ps.length - i) 0 ⟨Nat.zero_le _, 0, by omega, by simp, Fr.to hF ⟨rfl, rfl, rfl, rfl, rfl, trivial⟩, hH⟩ ?_
    rintro i A w ⟨hi, q, hq0, hq, hF, hH⟩
    refine wp_seq ?_
    refine wp_region_lit ?_
    by_cases hlt : i < S.ps.length
    · refine ev0 [1] tab hF hH rfl (by first | exact trivial | (simp only [All, inK_i64, inK_u64, inK_u32, inK_u8, inK_i32, max_i64, max_u64, IntKind.bits, Int.reduceToNat, Int.reduceAdd, Nat.reducePow, Int.reducePow, and_true, true_and, and_self] <;> omega)) ?_
      intro A w hF hH
      refine wpList_nil ?_
      refine wp_seq ?_
      refine cond_t hF rfl rfl ?_
      refine wp_skip ?_
      refine wp_seq ?_
      refine wp_block ?_
      refine wp_seq ?_
      refine wp_region_lit ?_
      have hpi := hp S.ps[i] (List.getElem_mem hlt)
      have hall := misL_range hsl S.ps hp
      have hrest := misL_range hsl (S.ps.drop (i + 1)) (fun p h => hp p (List.mem_of_mem_drop h))
      have hmi := misP_range hpi hsl
      have hat := At.own (κ := κ) (X := [row s [.slice (some ⟨b, 0, none⟩) S.ps.length cap, .int .i64 S.last, .int .i64 S.served, .int .i64 S.idle] 72, row b (S.ps.flatMap penc ++ junk) 74]) 1 rfl (flatMap_penc_get S.ps i hlt junk)
      rw [List.drop_eq_getElem_cons hlt] at hq
      simp only [misL] at hq
      generalize S.ps[i] = p at *
      obtain ⟨E, P, k, idx, rel, dl, left⟩ := p
      refine evF [] [row s [.slice (some ⟨b, 0, none⟩) S.ps.length cap, .int .i64 S.last, .int .i64 S.served, .int .i64 S.idle] 72, row b (S.ps.flatMap penc ++ junk) 74] (LFok.cons hat (LFok.nil _ _)) [0, 1] tab hF hH rfl (by first | exact trivial | (simp only [All, inK_i64, inK_u64, inK_u32, inK_u8, inK_i32, max_i64, max_u64, IntKind.bits, Int.reduceToNat, Int.reduceAdd, Nat.reducePow, Int.reducePow, and_true, true_and, and_self] <;> omega)) ?_
      intro A w hF hH
      refine list_act hF rfl ?_
      refine op_alloc hF tab rfl rfl rfl rfl rfl hH ?_
      intro b7 A w hF hH
      refine evM [⟨b7, [.int .i64 0, .int .i64 0, .int .i64 0, .int .i64 0, .int .i64 0, .int .i64 0, .int .i64 0], 74⟩] [0] tab hF hH rfl (by first | exact trivial | (simp only [All, inK_i64, inK_u64, inK_u32, inK_u8, inK_i32, max_i64, max_u64, IntKind.bits, Int.reduceToNat, Int.reduceAdd, Nat.reducePow, Int.reducePow, and_true, true_and, and_self] <;> omega)) ?_
      intro A w hF hH
      refine wpList_nil ?_
      refine wp_seq ?_
      refine wp_region_lit ?_
      obtain ⟨h1, h2, h3, h4, h5, h6, h7, h8, h9, h10, h11⟩ := hpi
      simp only at h1 h2 h3 h4 h5 h6 h7 h8 h9 h10 h11
      by_cases hd : dl ≤ at_
      · simp only [misP, if_pos hd] at hq hmi
        have a1 : 0 ≤ (at_ - dl) / P := Int.ediv_nonneg (by omega) (by omega)
        have a2 : (at_ - dl) / P ≤ at_ - dl := Int.ediv_le_self _ (by omega)
        have a3 : (at_ - dl) / P * E ≤ 1099511627776 * 24 := Int.mul_le_mul (by omega) (by omega) (by omega) (by omega)
        have a4 : 0 ≤ (at_ - dl) / P * E := Int.mul_nonneg a1 (by omega)
        refine evM [⟨b7, [.int .i64 E, .int .i64 P, .int .i64 k, .int .i64 idx, .int .i64 rel, .int .i64 dl, .int .i64 left], 74⟩] [0, 0, 0, 0, 1] tab hF hH rfl (by first | exact trivial | (simp only [All, inK_i64, inK_u64, inK_u32, inK_u8, inK_i32, max_i64, max_u64, IntKind.bits, Int.reduceToNat, Int.reduceAdd, Nat.reducePow, Int.reducePow, and_true, true_and, and_self] <;> omega)) ?_
        intro A w hF hH
        refine wpList_nil ?_
        refine cond_t hF rfl rfl ?_
        refine dr_all (by kernel_rfl) [] [row b7 [.int .i64 E, .int .i64 P, .int .i64 k, .int .i64 idx, .int .i64 rel, .int .i64 dl, .int .i64 left] 74] [(0, 0), (1, 0), (2, 0), (3, 1), (4, 0), (5, 0), (6, 0), (7, 3), (8, 0), (9, 0), (10, 0), (11, 5), (12, 0), (13, 0), (14, 0), (15, 7), (16, 0), (17, 0), (18, 0), (19, 0)] tab (LFok.cons (At.own (off := 6) (vs := [.int .i64 left]) 0 rfl (own1 rfl)) (LFok.cons (At.own (off := 5) (vs := [.int .i64 dl]) 0 rfl (own1 rfl)) (LFok.cons (At.own (off := 1) (vs := [.int .i64 P]) 0 rfl (own1 rfl)) (LFok.cons (At.own (off := 0) (vs := [.int .i64 E]) 0 rfl (own1 rfl)) (LFok.nil _ _))))) (by kernel_rfl) rfl hF hH (by kernel_rfl) (by kernel_rfl) rfl (by first | exact trivial | (simp only [All, inK_i64, inK_u64, inK_u32, inK_u8, inK_i32, max_i64, max_u64, IntKind.bits, Int.reduceToNat, Int.reduceAdd, Nat.reducePow, Int.reducePow, and_true, true_and, and_self] <;> omega)) ?_
        intro A w hF hH
        refine wp_region_lit ?_
        refine ev0 [0, 0] tab hF hH rfl (by first | exact trivial | (simp only [All, inK_i64, inK_u64, inK_u32, inK_u8, inK_i32, max_i64, max_u64, IntKind.bits, Int.reduceToNat, Int.reduceAdd, Nat.reducePow, Int.reducePow, and_true, true_and, and_self] <;> omega)) ?_
        intro A w hF hH
        refine wpList_nil ?_
        exact ⟨i + 1, ⟨by omega, q + (left + (at_ - dl) / P * E), by omega, by omega, Fr.to hF ⟨rfl, rfl, rfl, rfl, rfl, trivial⟩, hH.tail⟩, by omega⟩
      · skip
        simp only [misP, if_neg hd] at hq
        refine evM [⟨b7, [.int .i64 E, .int .i64 P, .int .i64 k, .int .i64 idx, .int .i64 rel, .int .i64 dl, .int .i64 left], 74⟩] [0, 0, 0, 0, 2] tab hF hH rfl (by first | exact trivial | (simp only [All, inK_i64, inK_u64, inK_u32, inK_u8, inK_i32, max_i64, max_u64, IntKind.bits, Int.reduceToNat, Int.reduceAdd, Nat.reducePow, Int.reducePow, and_true, true_and, and_self] <;> omega)) ?_
        intro A w hF hH
        refine wpList_nil ?_
        refine cond_f hF rfl rfl ?_
        refine wp_skip ?_
        refine wp_region_lit ?_
        refine ev0 [0, 0] tab hF hH rfl (by first | exact trivial | (simp only [All, inK_i64, inK_u64, inK_u32, inK_u8, inK_i32, max_i64, max_u64, IntKind.bits, Int.reduceToNat, Int.reduceAdd, Nat.reducePow, Int.reducePow, and_true, true_and, and_self] <;> omega)) ?_
        intro A w hF hH
        refine wpList_nil ?_
        exact ⟨i + 1, ⟨by omega, q, by omega, by omega, Fr.to hF ⟨rfl, rfl, rfl, rfl, rfl, trivial⟩, hH.tail⟩, by omega⟩
    · skip
      refine ev0 [2] tab hF hH rfl (by first | exact trivial | (simp only [All, inK_i64, inK_u64, inK_u32, inK_u8, inK_i32, max_i64, max_u64, IntKind.bits, Int.reduceToNat, Int.reduceAdd, Nat.reducePow, Int.reducePow, and_true, true_and, and_self] <;> omega)) ?_
      intro A w hF hH
      refine wpList_nil ?_
      refine wp_seq ?_
      refine cond_f hF rfl rfl ?_
      refine wp_exit ?_
      repeat (first | refine then_exit ?_ | refine ng_exit ?_ | refine blk_exit ?_ | refine blk_exit_ne rfl ?_)
      refine wp_seq ?_
      refine wp_region_lit ?_
      rw [List.drop_eq_nil_of_le (by omega)] at hq
      simp only [misL, Int.add_zero] at hq
      refine ev0 [0, 0] tab hF hH rfl (by first | exact trivial | (simp only [All, inK_i64, inK_u64, inK_u32, inK_u8, inK_i32, max_i64, max_u64, IntKind.bits, Int.reduceToNat, Int.reduceAdd, Nat.reducePow, Int.reducePow, and_true, true_and, and_self] <;> omega)) ?_
      intro A w hF hH
      refine wpList_nil ?_
      refine wp_ret ?_
      repeat (first | refine then_ret ?_ | refine blk_ret ?_ | refine ng_ret ?_)
      refine ret (M := []) (hs := []) tab hF hH rfl (by first | exact trivial | (simp only [All, inK_i64, inK_u64, inK_u32, inK_u8, inK_i32, max_i64, max_u64, IntKind.bits, Int.reduceToNat, Int.reduceAdd, Nat.reducePow, Int.reducePow, and_true, true_and, and_self] <;> omega)) ?_
      exact ⟨by rw [show missedF S at_ = q from by rw [missedF, if_pos hs, hq]]; rfl, sup_close (n := 0) rfl rfl rfl rfl hcap hH⟩
  · skip
    rw [show decide (S.last ≤ at_ ∧ at_ ≤ 1099511627776) = false from by simpa using hs] at hF
    refine ev0 [0] tab hF hH rfl (by first | exact trivial | (simp only [All, inK_i64, inK_u64, inK_u32, inK_u8, inK_i32, max_i64, max_u64, IntKind.bits, Int.reduceToNat, Int.reduceAdd, Nat.reducePow, Int.reducePow, and_true, true_and, and_self] <;> omega)) ?_
    intro A w hF hH
    refine wpList_nil ?_
    refine cond_t hF rfl rfl ?_
    refine wp_seq ?_
    refine wp_region_lit ?_
    refine ev0 [0, 0] tab hF hH rfl (by first | exact trivial | (simp only [All, inK_i64, inK_u64, inK_u32, inK_u8, inK_i32, max_i64, max_u64, IntKind.bits, Int.reduceToNat, Int.reduceAdd, Nat.reducePow, Int.reducePow, and_true, true_and, and_self] <;> omega)) ?_
    intro A w hF hH
    refine wpList_nil ?_
    refine wp_ret ?_
    repeat (first | refine then_ret ?_ | refine blk_ret ?_ | refine ng_ret ?_)
    refine ret (M := []) (hs := []) tab hF hH rfl (by first | exact trivial | (simp only [All, inK_i64, inK_u64, inK_u32, inK_u8, inK_i32, max_i64, max_u64, IntKind.bits, Int.reduceToNat, Int.reduceAdd, Nat.reducePow, Int.reducePow, and_true, true_and, and_self] <;> omega)) ?_
    exact ⟨by rw [missedF, if_neg hs]; rfl, hH⟩
end
end Go.Proofs.Try
