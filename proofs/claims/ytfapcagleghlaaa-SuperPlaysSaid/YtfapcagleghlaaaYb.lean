/- Rows of jobs: blocks rotated. -/
import Derived.Test.YtfapcagleghlaaaYa
set_option linter.all false
namespace Go.Proofs.Try
open Go Go.Sep

section
variable {κ : K} {w : World} {C : List HP}
/-- Ranges of one length change places. -/
theorem swapb_calls {b cap : Nat} {F : Value} (X A M B Y : List Prt) (junk : List Value) {a c n len : Nat} (ha : a = X.length) (hc : c = X.length + A.length + M.length) (hA : A.length = n) (hB : B.length = n)
    (hlen : len = (X ++ A ++ M ++ B ++ Y).length) (hcap : len ≤ cap) (hl : len ≤ 1000000)
    (hH : Hp κ w (row b ((X ++ A ++ M ++ B ++ Y).flatMap jenc ++ junk) 40 :: C)) : Calls Try.prog 90 #[.slice (some ⟨b, 0, none⟩) len cap, .int .i64 a, .int .i64 c, .int .i64 n, F] w
    (fun e w' => e = .returned (.tuple #[]) ∧ Hp κ w' (row b ((X ++ B ++ M ++ A ++ Y).flatMap jenc ++ junk) 40 :: C)) := by
  subst ha; subst hc; subst hlen
  have h := swapr_calls (κ := κ) (w := w) (C := C) (b := b) (cap := cap) (F := F) (a := X.length) (c := X.length + A.length + M.length) (n := n) (X ++ A ++ M ++ B ++ Y) junk (by omega) (by simp only [List.length_append]; omega) hcap hl hH
  rw [swapF_blocks n X A M B Y hA hB] at h
  exact h
theorem split_at (A : List Prt) (j : Nat) (h : j ≤ A.length) : ∃ A1 A2, A = A1 ++ A2 ∧ A1.length = j ∧ A2.length = A.length - j := ⟨A.take j, A.drop j, (List.take_append_drop _ _).symm, by simp; omega, by simp⟩
set_option maxRecDepth 20000 in
theorem rotate_calls {b cap : Nat} {F : Value} (X D B Y : List Prt) (junk : List Value) {a m c len : Nat} (ha : a = X.length) (hm : m = X.length + D.length) (hc : c = X.length + D.length + B.length) (hA : 0 < D.length) (hB : 0 < B.length)
    (hlen : len = (X ++ D ++ B ++ Y).length) (hcap : len ≤ cap) (hl : len ≤ 1000000)
    (hH : Hp κ w (row b ((X ++ D ++ B ++ Y).flatMap jenc ++ junk) 40 :: C)) : Calls Try.prog 86 #[.slice (some ⟨b, 0, none⟩) len cap, .int .i64 a, .int .i64 m, .int .i64 c, F] w
    (fun e w' => e = .returned (.tuple #[]) ∧ Hp κ w' (row b ((X ++ B ++ D ++ Y).flatMap jenc ++ junk) 40 :: C)) := by
  have hi0 : (m : Int) - a = (D.length : Int) := by omega
  have hj0 : (c : Int) - m = (B.length : Int) := by omega
  have hll : len = X.length + D.length + B.length + Y.length := by rw [hlen]; simp only [List.length_append]
  refine enter (args := [.slice (some ⟨b, 0, none⟩) len cap, .int .i64 a, .int .i64 m, .int .i64 c, F]) Try.func86 rfl rfl ?_
  intro A hF
  refine wp_seq ?_
  refine wp_region_lit ?_
  refine ev0 [0, 0, 0, 0] tab hF hH rfl (by first | exact trivial | (simp only [All, inK_i64, inK_u64, inK_u32, inK_u8, inK_i32, max_i64, max_u64, IntKind.bits, Int.reduceToNat, Int.reduceAdd, Nat.reducePow, Int.reducePow, and_true, true_and, and_self] <;> omega)) ?_
  intro A w hF hH
  simp only [hi0] at hF
  refine wpList_nil ?_
  refine wp_seq ?_
  refine wp_region_lit ?_
  refine ev0 [0, 0, 0, 0] tab hF hH rfl (by first | exact trivial | (simp only [All, inK_i64, inK_u64, inK_u32, inK_u8, inK_i32, max_i64, max_u64, IntKind.bits, Int.reduceToNat, Int.reduceAdd, Nat.reducePow, Int.reducePow, and_true, true_and, and_self] <;> omega)) ?_
  intro A w hF hH
  simp only [hj0] at hF
  refine wpList_nil ?_
  refine wp_seq ?_
  refine wp_block ?_
  refine loop_j (fun (p : Nat × Nat) A w => 0 < p.1 ∧ 0 < p.2 ∧ (∃ X' A' B' Y' : List Prt, A'.length = p.1 ∧ B'.length = p.2 ∧ X'.length + p.1 = m ∧ X'.length + p.1 + p.2 + Y'.length = len ∧ X' ++ B' ++ A' ++ Y' = X ++ B ++ D ++ Y ∧ Hp κ w (row b ((X' ++ A' ++ B' ++ Y').flatMap jenc ++ junk) 40 :: C)) ∧ Fr 58 A [(10, .int .i64 p.1), (11, .int .i64 p.2), (0, .slice (some ⟨b, 0, none⟩) len cap), (2, .int .i64 m), (4, F)]) (fun p => p.1 + p.2) (D.length, B.length) ⟨hA, hB, ⟨X, D, B, Y, rfl, rfl, by omega, by omega, rfl, hH⟩, Fr.to hF ⟨rfl, rfl, rfl, rfl, rfl, trivial⟩⟩ ?_
  rintro ⟨i, j⟩ A w ⟨hi, hj, ⟨X', A', B', Y', hA', hB', hX', hY', htg, hH⟩, hF⟩
  simp only at hi hj hA' hB' hX' hY'
  refine wp_seq ?_
  refine wp_seq ?_
  refine wp_region_lit ?_
  by_cases hij : i = j
  · refine ev0 [0, 0, 2] tab hF hH rfl (by first | exact trivial | (simp only [All, inK_i64, inK_u64, inK_u32, inK_u8, inK_i32, max_i64, max_u64, IntKind.bits, Int.reduceToNat, Int.reduceAdd, Nat.reducePow, Int.reducePow, and_true, true_and, and_self] <;> omega)) ?_
    intro A w hF hH
    refine wpList_nil ?_
    refine cond_f hF rfl rfl ?_
    refine wp_exit ?_
    repeat (first | refine then_exit ?_ | refine ng_exit ?_ | refine blk_exit ?_ | refine blk_exit_ne rfl ?_)
    refine wp_region_lit ?_
    have e1 : (m : Int) - i = (X'.length : Int) := by omega
    refine ev0 [0, 0, 0, 0, 0, 0, 0] tab hF hH rfl (by first | exact trivial | (simp only [All, inK_i64, inK_u64, inK_u32, inK_u8, inK_i32, max_i64, max_u64, IntKind.bits, Int.reduceToNat, Int.reduceAdd, Nat.reducePow, Int.reducePow, and_true, true_and, and_self] <;> omega)) ?_
    intro A w hF hH
    simp only [e1] at hF
    refine list_act hF rfl ?_
    refine op_call hF rfl rfl rfl rfl rfl rfl isF90 (swapb_calls (F := F) X' A' [] B' Y' junk (a := X'.length) (c := m) (n := i) (len := len) rfl (by simp; omega) hA' (by omega) (by simp; omega) hcap hl (by simpa using hH)) ?_
    rintro e w ⟨rfl, hH⟩
    refine ⟨_, rfl, fun A hF => ?_⟩
    refine wpList_nil ?_
    refine fin (M := []) (hs := []) tab hF hH rfl (by first | exact trivial | (simp only [All, inK_i64, inK_u64, inK_u32, inK_u8, inK_i32, max_i64, max_u64, IntKind.bits, Int.reduceToNat, Int.reduceAdd, Nat.reducePow, Int.reducePow, and_true, true_and, and_self] <;> omega)) ?_
    simp only [List.append_nil] at hH
    rw [htg] at hH
    exact ⟨rfl, hH⟩
  · skip
    refine ev0 [0, 0, 1] tab hF hH rfl (by first | exact trivial | (simp only [All, inK_i64, inK_u64, inK_u32, inK_u8, inK_i32, max_i64, max_u64, IntKind.bits, Int.reduceToNat, Int.reduceAdd, Nat.reducePow, Int.reducePow, and_true, true_and, and_self] <;> omega)) ?_
    intro A w hF hH
    refine wpList_nil ?_
    refine cond_t hF rfl rfl ?_
    refine wp_skip ?_
    refine wp_block ?_
    refine wp_seq ?_
    refine wp_region_lit ?_
    have e1 : (m : Int) - i = (X'.length : Int) := by omega
    by_cases hlt : j < i
    · refine ev0 [0, 0, 1] tab hF hH rfl (by first | exact trivial | (simp only [All, inK_i64, inK_u64, inK_u32, inK_u8, inK_i32, max_i64, max_u64, IntKind.bits, Int.reduceToNat, Int.reduceAdd, Nat.reducePow, Int.reducePow, and_true, true_and, and_self] <;> omega)) ?_
      intro A w hF hH
      refine wpList_nil ?_
      refine cond_t hF rfl rfl ?_
      refine wp_seq ?_
      refine wp_region_lit ?_
      obtain ⟨A1, A2, rfl, hA1, hA2⟩ := split_at A' j (by omega)
      simp only [List.length_append] at hA'
      refine ev0 [0, 0, 0, 0, 0, 0, 0] tab hF hH rfl (by first | exact trivial | (simp only [All, inK_i64, inK_u64, inK_u32, inK_u8, inK_i32, max_i64, max_u64, IntKind.bits, Int.reduceToNat, Int.reduceAdd, Nat.reducePow, Int.reducePow, and_true, true_and, and_self] <;> omega)) ?_
      intro A w hF hH
      simp only [e1] at hF
      refine list_act hF rfl ?_
      refine op_call hF rfl rfl rfl rfl rfl rfl isF90 (swapb_calls (F := F) X' A1 A2 B' Y' junk (a := X'.length) (c := m) (n := j) (len := len) rfl (by omega) hA1 hB' (by simp; omega) hcap hl (by simpa using hH)) ?_
      rintro e w ⟨rfl, hH⟩
      refine ⟨_, rfl, fun A hF => ?_⟩
      refine wpList_nil ?_
      refine wp_region_lit ?_
      have e2 : (i : Int) - j = ((i - j : Nat) : Int) := by omega
      refine ev0 [0, 0, 0, 0] tab hF hH rfl (by first | exact trivial | (simp only [All, inK_i64, inK_u64, inK_u32, inK_u8, inK_i32, max_i64, max_u64, IntKind.bits, Int.reduceToNat, Int.reduceAdd, Nat.reducePow, Int.reducePow, and_true, true_and, and_self] <;> omega)) ?_
      intro A w hF hH
      simp only [e2] at hF
      refine wpList_nil ?_
      exact ⟨(i - j, j), ⟨by simp only; omega, hj, ⟨X' ++ B', A2, A1, Y', by simp only; omega, hA1, by simp; omega, by simp; omega, by rw [← htg]; simp, by simpa using hH⟩, Fr.to hF ⟨rfl, rfl, rfl, rfl, rfl, trivial⟩⟩, by simp only; omega⟩
    · skip
      refine ev0 [0, 0, 2] tab hF hH rfl (by first | exact trivial | (simp only [All, inK_i64, inK_u64, inK_u32, inK_u8, inK_i32, max_i64, max_u64, IntKind.bits, Int.reduceToNat, Int.reduceAdd, Nat.reducePow, Int.reducePow, and_true, true_and, and_self] <;> omega)) ?_
      intro A w hF hH
      refine wpList_nil ?_
      refine cond_f hF rfl rfl ?_
      refine wp_seq ?_
      refine wp_region_lit ?_
      obtain ⟨B1, B2, rfl, hB1, hB2⟩ := split_at B' (j - i) (by omega)
      simp only [List.length_append] at hB'
      have e3 : (m : Int) + j - i = ((m + j - i : Nat) : Int) := by omega
      refine ev0 [0, 0, 0, 0, 0, 0, 0, 0, 0, 0, 0] tab hF hH rfl (by first | exact trivial | (simp only [All, inK_i64, inK_u64, inK_u32, inK_u8, inK_i32, max_i64, max_u64, IntKind.bits, Int.reduceToNat, Int.reduceAdd, Nat.reducePow, Int.reducePow, and_true, true_and, and_self] <;> omega)) ?_
      intro A w hF hH
      simp only [e1, e3] at hF
      refine list_act hF rfl ?_
      refine op_call hF rfl rfl rfl rfl rfl rfl isF90 (swapb_calls (F := F) X' A' B1 B2 Y' junk (a := X'.length) (c := m + j - i) (n := i) (len := len) rfl (by omega) hA' (by omega) (by simp; omega) hcap hl (by simpa using hH)) ?_
      rintro e w ⟨rfl, hH⟩
      refine ⟨_, rfl, fun A hF => ?_⟩
      refine wpList_nil ?_
      refine wp_region_lit ?_
      have e2 : (j : Int) - i = ((j - i : Nat) : Int) := by omega
      refine ev0 [0, 0, 0, 0] tab hF hH rfl (by first | exact trivial | (simp only [All, inK_i64, inK_u64, inK_u32, inK_u8, inK_i32, max_i64, max_u64, IntKind.bits, Int.reduceToNat, Int.reduceAdd, Nat.reducePow, Int.reducePow, and_true, true_and, and_self] <;> omega)) ?_
      intro A w hF hH
      simp only [e2] at hF
      refine wpList_nil ?_
      exact ⟨(i, j - i), ⟨hi, by simp only; omega, ⟨X', B2, B1, A' ++ Y', by simp only; omega, by simp only; omega, by simp only; omega, by simp; omega, by rw [← htg]; simp, by simpa using hH⟩, Fr.to hF ⟨rfl, rfl, rfl, rfl, rfl, trivial⟩⟩, by simp only; omega⟩
end
end Go.Proofs.Try
