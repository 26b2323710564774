/- The supertask as it lies, and contracts of its small functions. -/
import Derived.Test.YtfapcagleghlaaaRd
set_option linter.all false
namespace Go.Proofs.Try
open Go Go.Sep

/-- A part and its job. -/
structure Prt where
  E : Int
  P : Int
  k : Int
  idx : Int
  rel : Int
  dl : Int
  left : Int
def jenc (p : Prt) : List Value := [.int .i64 p.k, .int .i64 p.idx, .int .i64 p.rel, .int .i64 p.dl, .int .i64 p.left]
def penc (p : Prt) : List Value := [.int .i64 p.E, .int .i64 p.P, .int .i64 p.k, .int .i64 p.idx, .int .i64 p.rel, .int .i64 p.dl, .int .i64 p.left]
def jval (p : Prt) : Value := .agg #[.int .i64 p.k, .int .i64 p.idx, .int .i64 p.rel, .int .i64 p.dl, .int .i64 p.left]
structure Sup where
  ps : List Prt
  last : Int
  served : Int
  idle : Int
/-- A supertask, on two blocks. -/
def sup (s : Nat) (S : Sup) : HP := ex fun b => ex fun cap => ex fun junk => star (row s [.slice (some ⟨b, 0, none⟩) S.ps.length cap, .int .i64 S.last, .int .i64 S.served, .int .i64 S.idle] 72) (star (row b (S.ps.flatMap penc ++ junk) 74) (pure (S.ps.length ≤ cap)))
section
variable {κ : K} {w : World} {C : List HP}
theorem sup_open {s : Nat} {S : Sup} (h : Hp κ w (sup s S :: C)) : ∃ b cap junk, S.ps.length ≤ cap ∧ Hp κ w (row s [.slice (some ⟨b, 0, none⟩) S.ps.length cap, .int .i64 S.last, .int .i64 S.served, .int .i64 S.idle] 72 :: row b (S.ps.flatMap penc ++ junk) 74 :: C) := by
  obtain ⟨b, h⟩ := h.ex_elim
  obtain ⟨cap, h⟩ := h.ex_elim
  obtain ⟨junk, h⟩ := h.ex_elim
  have h := h.star_elim.swap.star_elim.swap
  exact ⟨b, cap, junk, h.pure_elim, h.tail.swap⟩
theorem sup_close {s : Nat} {S : Sup} {b cap : Nat} {junk : List Value} {n last served idle : Int} {m : Nat} (hm : m = S.ps.length) (h1 : last = S.last) (h2 : served = S.served) (h3 : idle = S.idle) (hc : S.ps.length ≤ cap)
    (h : Hp κ w (row s [.slice (some ⟨b, 0, none⟩) m cap, .int .i64 last, .int .i64 served, .int .i64 idle] 72 :: row b (S.ps.flatMap penc ++ junk) 74 :: C)) : Hp κ w (sup s S :: C) := by
  subst hm; subst h1; subst h2; subst h3
  refine Hp.ex_intro b (Hp.ex_intro cap (Hp.ex_intro junk (Hp.star_intro (Hp.swap (Hp.star_intro ?_)))))
  exact (Hp.pure_intro hc h.swap).swap
set_option maxRecDepth 20000 in
theorem slot_calls {s : Nat} {S : Sup} (at_ : Int) (hH : Hp κ w (sup s S :: C)) : Calls Try.prog 36 #[.pointer (some ⟨s, 0, none⟩), .int .i64 at_] w (fun e w' => e = .returned (.bool (decide (S.last ≤ at_ ∧ at_ ≤ 1099511627776))) ∧ Hp κ w' (sup s S :: C)) := by
  obtain ⟨b, cap, junk, hcap, hH⟩ := sup_open hH
  refine enter (args := [.pointer (some ⟨s, 0, none⟩), .int .i64 at_]) Try.func36 rfl rfl ?_
  intro A hF
  refine wp_seq ?_
  refine wp_region_lit ?_
  refine ev0 [0] tab hF hH rfl (by first | exact trivial | (simp only [All, inK_i64, inK_u64, inK_u32, inK_u8, inK_i32, max_i64, max_u64, IntKind.bits, Int.reduceToNat, Int.reduceAdd, Nat.reducePow, Int.reducePow, and_true, true_and, and_self] <;> omega)) ?_
  intro A w hF hH
  refine wpList_nil ?_
  refine wp_seq ?_
  refine wp_region_lit ?_
  by_cases h1 : S.last ≤ at_
  · refine evM [⟨s, [.slice (some ⟨b, 0, none⟩) S.ps.length cap, .int .i64 S.last, .int .i64 S.served, .int .i64 S.idle], 72⟩] [0, 0, 0, 0, 0, 0, 0, 0, 1, 0, 0, 0, 0, 0, 0] tab hF hH rfl (by first | exact trivial | (simp only [All, inK_i64, inK_u64, inK_u32, inK_u8, inK_i32, max_i64, max_u64, IntKind.bits, Int.reduceToNat, Int.reduceAdd, Nat.reducePow, Int.reducePow, and_true, true_and, and_self] <;> omega)) ?_
    intro A w hF hH
    refine wpList_nil ?_
    refine wp_ret ?_
    repeat (first | refine then_ret ?_ | refine blk_ret ?_ | refine ng_ret ?_)
    refine ret (M := []) (hs := []) tab hF hH rfl (by first | exact trivial | (simp only [All, inK_i64, inK_u64, inK_u32, inK_u8, inK_i32, max_i64, max_u64, IntKind.bits, Int.reduceToNat, Int.reduceAdd, Nat.reducePow, Int.reducePow, and_true, true_and, and_self] <;> omega)) ?_
    exact ⟨by simp [h1]; rfl, sup_close (n := 0) rfl rfl rfl rfl hcap hH⟩
  · skip
    refine evM [⟨s, [.slice (some ⟨b, 0, none⟩) S.ps.length cap, .int .i64 S.last, .int .i64 S.served, .int .i64 S.idle], 72⟩] [0, 0, 0, 0, 0, 0, 0, 0, 2, 0, 0, 0, 0, 0, 0] tab hF hH rfl (by first | exact trivial | (simp only [All, inK_i64, inK_u64, inK_u32, inK_u8, inK_i32, max_i64, max_u64, IntKind.bits, Int.reduceToNat, Int.reduceAdd, Nat.reducePow, Int.reducePow, and_true, true_and, and_self] <;> omega)) ?_
    intro A w hF hH
    refine wpList_nil ?_
    refine wp_ret ?_
    repeat (first | refine then_ret ?_ | refine blk_ret ?_ | refine ng_ret ?_)
    refine ret (M := []) (hs := []) tab hF hH rfl (by first | exact trivial | (simp only [All, inK_i64, inK_u64, inK_u32, inK_u8, inK_i32, max_i64, max_u64, IntKind.bits, Int.reduceToNat, Int.reduceAdd, Nat.reducePow, Int.reducePow, and_true, true_and, and_self] <;> omega)) ?_
    exact ⟨by simp [h1]; rfl, sup_close (n := 0) rfl rfl rfl rfl hcap hH⟩
set_option maxRecDepth 20000 in
theorem served_calls {s : Nat} {S : Sup} (hH : Hp κ w (sup s S :: C)) : Calls Try.prog 16 #[.pointer (some ⟨s, 0, none⟩)] w (fun e w' => e = .returned (.int .i64 S.served) ∧ Hp κ w' (sup s S :: C)) := by
  obtain ⟨b, cap, junk, hcap, hH⟩ := sup_open hH
  refine enter (args := [.pointer (some ⟨s, 0, none⟩)]) Try.func16 rfl rfl ?_
  intro A hF
  refine wp_seq ?_
  refine wp_region_lit ?_
  refine ev0 [0] tab hF hH rfl (by first | exact trivial | (simp only [All, inK_i64, inK_u64, inK_u32, inK_u8, inK_i32, max_i64, max_u64, IntKind.bits, Int.reduceToNat, Int.reduceAdd, Nat.reducePow, Int.reducePow, and_true, true_and, and_self] <;> omega)) ?_
  intro A w hF hH
  refine wpList_nil ?_
  refine wp_seq ?_
  refine wp_seq ?_
  refine wp_region_lit ?_
  refine ev0 [0, 0] tab hF hH rfl (by first | exact trivial | (simp only [All, inK_i64, inK_u64, inK_u32, inK_u8, inK_i32, max_i64, max_u64, IntKind.bits, Int.reduceToNat, Int.reduceAdd, Nat.reducePow, Int.reducePow, and_true, true_and, and_self] <;> omega)) ?_
  intro A w hF hH
  refine wpList_nil ?_
  refine cond_f hF rfl rfl ?_
  refine wp_skip ?_
  refine wp_seq ?_
  refine wp_region_lit ?_
  refine evM [⟨s, [.slice (some ⟨b, 0, none⟩) S.ps.length cap, .int .i64 S.last, .int .i64 S.served, .int .i64 S.idle], 72⟩] [0, 0, 0, 0, 0] tab hF hH rfl (by first | exact trivial | (simp only [All, inK_i64, inK_u64, inK_u32, inK_u8, inK_i32, max_i64, max_u64, IntKind.bits, Int.reduceToNat, Int.reduceAdd, Nat.reducePow, Int.reducePow, and_true, true_and, and_self] <;> omega)) ?_
  intro A w hF hH
  refine wpList_nil ?_
  refine wp_ret ?_
  repeat (first | refine then_ret ?_ | refine blk_ret ?_ | refine ng_ret ?_)
  refine ret (M := []) (hs := []) tab hF hH rfl (by first | exact trivial | (simp only [All, inK_i64, inK_u64, inK_u32, inK_u8, inK_i32, max_i64, max_u64, IntKind.bits, Int.reduceToNat, Int.reduceAdd, Nat.reducePow, Int.reducePow, and_true, true_and, and_self] <;> omega)) ?_
  exact ⟨rfl, sup_close (n := 0) rfl rfl rfl rfl hcap hH⟩
set_option maxRecDepth 20000 in
theorem idle_calls {s : Nat} {S : Sup} (hH : Hp κ w (sup s S :: C)) : Calls Try.prog 17 #[.pointer (some ⟨s, 0, none⟩)] w (fun e w' => e = .returned (.int .i64 S.idle) ∧ Hp κ w' (sup s S :: C)) := by
  obtain ⟨b, cap, junk, hcap, hH⟩ := sup_open hH
  refine enter (args := [.pointer (some ⟨s, 0, none⟩)]) Try.func17 rfl rfl ?_
  intro A hF
  refine wp_seq ?_
  refine wp_region_lit ?_
  refine ev0 [0] tab hF hH rfl (by first | exact trivial | (simp only [All, inK_i64, inK_u64, inK_u32, inK_u8, inK_i32, max_i64, max_u64, IntKind.bits, Int.reduceToNat, Int.reduceAdd, Nat.reducePow, Int.reducePow, and_true, true_and, and_self] <;> omega)) ?_
  intro A w hF hH
  refine wpList_nil ?_
  refine wp_seq ?_
  refine wp_seq ?_
  refine wp_region_lit ?_
  refine ev0 [0, 0] tab hF hH rfl (by first | exact trivial | (simp only [All, inK_i64, inK_u64, inK_u32, inK_u8, inK_i32, max_i64, max_u64, IntKind.bits, Int.reduceToNat, Int.reduceAdd, Nat.reducePow, Int.reducePow, and_true, true_and, and_self] <;> omega)) ?_
  intro A w hF hH
  refine wpList_nil ?_
  refine cond_f hF rfl rfl ?_
  refine wp_skip ?_
  refine wp_seq ?_
  refine wp_region_lit ?_
  refine evM [⟨s, [.slice (some ⟨b, 0, none⟩) S.ps.length cap, .int .i64 S.last, .int .i64 S.served, .int .i64 S.idle], 72⟩] [0, 0, 0, 0, 0] tab hF hH rfl (by first | exact trivial | (simp only [All, inK_i64, inK_u64, inK_u32, inK_u8, inK_i32, max_i64, max_u64, IntKind.bits, Int.reduceToNat, Int.reduceAdd, Nat.reducePow, Int.reducePow, and_true, true_and, and_self] <;> omega)) ?_
  intro A w hF hH
  refine wpList_nil ?_
  refine wp_ret ?_
  repeat (first | refine then_ret ?_ | refine blk_ret ?_ | refine ng_ret ?_)
  refine ret (M := []) (hs := []) tab hF hH rfl (by first | exact trivial | (simp only [All, inK_i64, inK_u64, inK_u32, inK_u8, inK_i32, max_i64, max_u64, IntKind.bits, Int.reduceToNat, Int.reduceAdd, Nat.reducePow, Int.reducePow, and_true, true_and, and_self] <;> omega)) ?_
  exact ⟨rfl, sup_close (n := 0) rfl rfl rfl rfl hcap hH⟩
def ordF (a b : Prt) : Int := if cmpI a.dl b.dl ≠ 0 then cmpI a.dl b.dl else cmpI a.k b.k
set_option maxRecDepth 20000 in
theorem or_calls {a b : Int} {x : Nat} (hH : Hp κ w (row x [.int .i64 a, .int .i64 b] 3 :: C)) : Calls Try.prog 63 #[.slice (some ⟨x, 0, none⟩) 2 2] w (fun e w' => e = .returned (.int .i64 (if a ≠ 0 then a else b)) ∧ Hp κ w' C) := by
  refine enter (args := [.slice (some ⟨x, 0, none⟩) 2 2]) Try.func63 rfl rfl ?_
  intro A hF
  refine wp_seq ?_
  refine wp_region_lit ?_
  refine ev0 [0] tab hF hH rfl (by first | exact trivial | (simp only [All, inK_i64, inK_u64, inK_u32, inK_u8, inK_i32, max_i64, max_u64, IntKind.bits, Int.reduceToNat, Int.reduceAdd, Nat.reducePow, Int.reducePow, and_true, true_and, and_self] <;> omega)) ?_
  intro A w hF hH
  refine wpList_nil ?_
  refine wp_seq ?_
  refine wp_region_lit ?_
  refine ev0 [0] tab hF hH rfl (by first | exact trivial | (simp only [All, inK_i64, inK_u64, inK_u32, inK_u8, inK_i32, max_i64, max_u64, IntKind.bits, Int.reduceToNat, Int.reduceAdd, Nat.reducePow, Int.reducePow, and_true, true_and, and_self] <;> omega)) ?_
  intro A w hF hH
  refine wpList_nil ?_
  refine wp_seq ?_
  refine wp_seq ?_
  refine wp_region_lit ?_
  refine ev0 [0, 0, 0] tab hF hH rfl (by first | exact trivial | (simp only [All, inK_i64, inK_u64, inK_u32, inK_u8, inK_i32, max_i64, max_u64, IntKind.bits, Int.reduceToNat, Int.reduceAdd, Nat.reducePow, Int.reducePow, and_true, true_and, and_self] <;> omega)) ?_
  intro A w hF hH
  refine wpList_nil ?_
  refine wp_block ?_
  refine loop_j (fun (i : Nat) A w => i ≤ 2 ∧ (1 ≤ i → a = 0) ∧ (2 ≤ i → b = 0) ∧ Fr 18 A [(8, .int .i64 i), (7, .int .i64 2), (6, .slice (some ⟨x, 0, none⟩) 2 2), (3, .int .i64 0)] ∧ Hp κ w (row x [.int .i64 a, .int .i64 b] 3 :: C)) (fun i => 2 - i) 0 ⟨by omega, by omega, by omega, Fr.to hF ⟨rfl, rfl, rfl, rfl, trivial⟩, hH⟩ ?_
  rintro i A w ⟨hi, hia, hib, hF, hH⟩
  refine wp_seq ?_
  refine wp_region_lit ?_
  obtain rfl | rfl | rfl : i = 0 ∨ i = 1 ∨ i = 2 := by omega
  · refine ev0 [1] tab hF hH rfl (by first | exact trivial | (simp only [All, inK_i64, inK_u64, inK_u32, inK_u8, inK_i32, max_i64, max_u64, IntKind.bits, Int.reduceToNat, Int.reduceAdd, Nat.reducePow, Int.reducePow, and_true, true_and, and_self] <;> omega)) ?_
    intro A w hF hH
    refine wpList_nil ?_
    refine wp_seq ?_
    refine cond_t hF rfl rfl ?_
    refine wp_skip ?_
    refine wp_seq ?_
    refine wp_block ?_
    refine wp_seq ?_
    refine wp_region_lit ?_
    refine evM [⟨x, [.int .i64 a, .int .i64 b], 3⟩] [0, 0, 0] tab hF hH rfl (by first | exact trivial | (simp only [All, inK_i64, inK_u64, inK_u32, inK_u8, inK_i32, max_i64, max_u64, IntKind.bits, Int.reduceToNat, Int.reduceAdd, Nat.reducePow, Int.reducePow, and_true, true_and, and_self] <;> omega)) ?_
    intro A w hF hH
    try simp only [Int.reduceToNat, Int.reduceAdd, Nat.reducePow, Int.reducePow] at hF
    refine wpList_nil ?_
    refine wp_seq ?_
    refine wp_region_lit ?_
    by_cases h : a = 0
    · refine ev0 [0, 0, 2] tab hF hH rfl (by first | exact trivial | (simp only [All, inK_i64, inK_u64, inK_u32, inK_u8, inK_i32, max_i64, max_u64, IntKind.bits, Int.reduceToNat, Int.reduceAdd, Nat.reducePow, Int.reducePow, and_true, true_and, and_self] <;> omega)) ?_
      intro A w hF hH
      refine wpList_nil ?_
      refine cond_f hF rfl rfl ?_
      refine wp_skip ?_
      refine wp_region_lit ?_
      refine ev0 [0, 0] tab hF hH rfl (by first | exact trivial | (simp only [All, inK_i64, inK_u64, inK_u32, inK_u8, inK_i32, max_i64, max_u64, IntKind.bits, Int.reduceToNat, Int.reduceAdd, Nat.reducePow, Int.reducePow, and_true, true_and, and_self] <;> omega)) ?_
      intro A w hF hH
      refine wpList_nil ?_
      refine ⟨1, ⟨by omega, fun _ => h, by omega, Fr.to hF ⟨rfl, rfl, rfl, rfl, trivial⟩, hH⟩, by omega⟩
    · skip
      refine ev0 [0, 0, 1] tab hF hH rfl (by first | exact trivial | (simp only [All, inK_i64, inK_u64, inK_u32, inK_u8, inK_i32, max_i64, max_u64, IntKind.bits, Int.reduceToNat, Int.reduceAdd, Nat.reducePow, Int.reducePow, and_true, true_and, and_self] <;> omega)) ?_
      intro A w hF hH
      refine wpList_nil ?_
      refine cond_t hF rfl rfl ?_
      refine wp_seq ?_
      refine wp_region_lit ?_
      refine ev0 [0, 0] tab hF hH rfl (by first | exact trivial | (simp only [All, inK_i64, inK_u64, inK_u32, inK_u8, inK_i32, max_i64, max_u64, IntKind.bits, Int.reduceToNat, Int.reduceAdd, Nat.reducePow, Int.reducePow, and_true, true_and, and_self] <;> omega)) ?_
      intro A w hF hH
      refine wpList_nil ?_
      refine wp_ret ?_
      repeat (first | refine then_ret ?_ | refine blk_ret ?_ | refine ng_ret ?_)
      refine ret (M := []) (hs := []) tab hF hH rfl (by first | exact trivial | (simp only [All, inK_i64, inK_u64, inK_u32, inK_u8, inK_i32, max_i64, max_u64, IntKind.bits, Int.reduceToNat, Int.reduceAdd, Nat.reducePow, Int.reducePow, and_true, true_and, and_self] <;> omega)) ?_
      exact ⟨by rw [if_pos h]; rfl, hH.tail⟩
  · skip
    have h0 := hia (by omega)
    refine ev0 [1] tab hF hH rfl (by first | exact trivial | (simp only [All, inK_i64, inK_u64, inK_u32, inK_u8, inK_i32, max_i64, max_u64, IntKind.bits, Int.reduceToNat, Int.reduceAdd, Nat.reducePow, Int.reducePow, and_true, true_and, and_self] <;> omega)) ?_
    intro A w hF hH
    refine wpList_nil ?_
    refine wp_seq ?_
    refine cond_t hF rfl rfl ?_
    refine wp_skip ?_
    refine wp_seq ?_
    refine wp_block ?_
    refine wp_seq ?_
    refine wp_region_lit ?_
    refine evM [⟨x, [.int .i64 a, .int .i64 b], 3⟩] [0, 0, 0] tab hF hH rfl (by first | exact trivial | (simp only [All, inK_i64, inK_u64, inK_u32, inK_u8, inK_i32, max_i64, max_u64, IntKind.bits, Int.reduceToNat, Int.reduceAdd, Nat.reducePow, Int.reducePow, and_true, true_and, and_self] <;> omega)) ?_
    intro A w hF hH
    try simp only [Int.reduceToNat, Int.reduceAdd, Nat.reducePow, Int.reducePow] at hF
    refine wpList_nil ?_
    refine wp_seq ?_
    refine wp_region_lit ?_
    by_cases h : b = 0
    · refine ev0 [0, 0, 2] tab hF hH rfl (by first | exact trivial | (simp only [All, inK_i64, inK_u64, inK_u32, inK_u8, inK_i32, max_i64, max_u64, IntKind.bits, Int.reduceToNat, Int.reduceAdd, Nat.reducePow, Int.reducePow, and_true, true_and, and_self] <;> omega)) ?_
      intro A w hF hH
      refine wpList_nil ?_
      refine cond_f hF rfl rfl ?_
      refine wp_skip ?_
      refine wp_region_lit ?_
      refine ev0 [0, 0] tab hF hH rfl (by first | exact trivial | (simp only [All, inK_i64, inK_u64, inK_u32, inK_u8, inK_i32, max_i64, max_u64, IntKind.bits, Int.reduceToNat, Int.reduceAdd, Nat.reducePow, Int.reducePow, and_true, true_and, and_self] <;> omega)) ?_
      intro A w hF hH
      refine wpList_nil ?_
      refine ⟨2, ⟨by omega, fun _ => h0, fun _ => h, Fr.to hF ⟨rfl, rfl, rfl, rfl, trivial⟩, hH⟩, by omega⟩
    · skip
      refine ev0 [0, 0, 1] tab hF hH rfl (by first | exact trivial | (simp only [All, inK_i64, inK_u64, inK_u32, inK_u8, inK_i32, max_i64, max_u64, IntKind.bits, Int.reduceToNat, Int.reduceAdd, Nat.reducePow, Int.reducePow, and_true, true_and, and_self] <;> omega)) ?_
      intro A w hF hH
      refine wpList_nil ?_
      refine cond_t hF rfl rfl ?_
      refine wp_seq ?_
      refine wp_region_lit ?_
      refine ev0 [0, 0] tab hF hH rfl (by first | exact trivial | (simp only [All, inK_i64, inK_u64, inK_u32, inK_u8, inK_i32, max_i64, max_u64, IntKind.bits, Int.reduceToNat, Int.reduceAdd, Nat.reducePow, Int.reducePow, and_true, true_and, and_self] <;> omega)) ?_
      intro A w hF hH
      refine wpList_nil ?_
      refine wp_ret ?_
      repeat (first | refine then_ret ?_ | refine blk_ret ?_ | refine ng_ret ?_)
      refine ret (M := []) (hs := []) tab hF hH rfl (by first | exact trivial | (simp only [All, inK_i64, inK_u64, inK_u32, inK_u8, inK_i32, max_i64, max_u64, IntKind.bits, Int.reduceToNat, Int.reduceAdd, Nat.reducePow, Int.reducePow, and_true, true_and, and_self] <;> omega)) ?_
      exact ⟨by rw [if_neg (by omega)]; rfl, hH.tail⟩
  · skip
    refine ev0 [2] tab hF hH rfl (by first | exact trivial | (simp only [All, inK_i64, inK_u64, inK_u32, inK_u8, inK_i32, max_i64, max_u64, IntKind.bits, Int.reduceToNat, Int.reduceAdd, Nat.reducePow, Int.reducePow, and_true, true_and, and_self] <;> omega)) ?_
    intro A w hF hH
    refine wpList_nil ?_
    refine wp_seq ?_
    refine cond_f hF rfl rfl ?_
    refine wp_exit ?_
    repeat (first | refine then_exit ?_ | refine ng_exit ?_ | refine blk_exit ?_ | refine blk_exit_ne rfl ?_)
    refine wp_seq ?_
    refine wp_region_lit ?_
    refine ev0 [0, 0] tab hF hH rfl (by first | exact trivial | (simp only [All, inK_i64, inK_u64, inK_u32, inK_u8, inK_i32, max_i64, max_u64, IntKind.bits, Int.reduceToNat, Int.reduceAdd, Nat.reducePow, Int.reducePow, and_true, true_and, and_self] <;> omega)) ?_
    intro A w hF hH
    refine wpList_nil ?_
    refine wp_ret ?_
    repeat (first | refine then_ret ?_ | refine blk_ret ?_ | refine ng_ret ?_)
    refine ret (M := []) (hs := []) tab hF hH rfl (by first | exact trivial | (simp only [All, inK_i64, inK_u64, inK_u32, inK_u8, inK_i32, max_i64, max_u64, IntKind.bits, Int.reduceToNat, Int.reduceAdd, Nat.reducePow, Int.reducePow, and_true, true_and, and_self] <;> omega)) ?_
    exact ⟨by rw [if_neg (by have := hia (by omega); omega), hib (by omega)]; rfl, hH.tail⟩
set_option maxRecDepth 20000 in
theorem order_calls (p q : Prt) (hH : Hp κ w C) : Calls Try.prog 37 #[jval p, jval q] w (fun e w' => e = .returned (.int .i64 (ordF p q)) ∧ Hp κ w' C) := by
  refine enter (args := [jval p, jval q]) Try.func37 rfl rfl ?_
  intro A hF
  refine wp_seq ?_
  refine wp_region_lit ?_
  refine list_act hF rfl ?_
  refine op_box hF rfl rfl rfl rfl rfl hH ?_
  intro b1 A w hF hH
  refine list_act hF rfl ?_
  refine op_box hF rfl rfl rfl rfl rfl hH ?_
  intro b2 A w hF hH
  refine ev0 [0] tab hF hH rfl (by first | exact trivial | (simp only [All, inK_i64, inK_u64, inK_u32, inK_u8, inK_i32, max_i64, max_u64, IntKind.bits, Int.reduceToNat, Int.reduceAdd, Nat.reducePow, Int.reducePow, and_true, true_and, and_self] <;> omega)) ?_
  intro A w hF hH
  refine wpList_nil ?_
  refine wp_seq ?_
  have hH := hH.swap
  refine dr_reads (by kernel_rfl) [] [row b1 (jenc p) 40, row b2 (jenc q) 40] [] [(0, 0), (1, 1), (2, 0), (3, 3), (5, 0), (6, 5), (7, 0), (8, 7)] 5 tab (LFok.cons (At.own (off := 3) (vs := [.int .i64 p.dl]) 0 rfl (own1 rfl)) (LFok.cons (At.own (off := 3) (vs := [.int .i64 q.dl]) 1 rfl (own1 rfl)) (LFok.cons (At.own (off := 0) (vs := [.int .i64 p.k]) 0 rfl (own1 rfl)) (LFok.cons (At.own (off := 0) (vs := [.int .i64 q.k]) 1 rfl (own1 rfl)) (LFok.nil _ _))))) (by kernel_rfl) rfl hF hH (by kernel_rfl) rfl (by first | exact trivial | (simp only [All, inK_i64, inK_u64, inK_u32, inK_u8, inK_i32, max_i64, max_u64, IntKind.bits, Int.reduceToNat, Int.reduceAdd, Nat.reducePow, Int.reducePow, and_true, true_and, and_self] <;> omega)) ?_
  intro A w hF hH
  refine dr_act (k := 4) (by kernel_rfl) rfl hF rfl ?_
  refine op_call hF rfl rfl rfl rfl rfl rfl isF64 (cmp64 p.dl q.dl _ _ _ hH) ?_
  rintro e w ⟨rfl, hH⟩
  refine ⟨_, rfl, fun A hF => ?_⟩
  refine ⟨fun _ => Keeps.of hH (K.le.refl _), ?_⟩
  refine dr_act (k := 9) (by kernel_rfl) rfl hF rfl ?_
  refine op_call hF rfl rfl rfl rfl rfl rfl isF65 (cmpint p.k q.k _ _ _ hH) ?_
  rintro e w ⟨rfl, hH⟩
  refine ⟨_, rfl, fun A hF => ?_⟩
  refine ⟨fun _ => Keeps.of hH (K.le.refl _), ?_⟩
  refine dr_act (k := 10) (by kernel_rfl) rfl hF rfl ?_
  refine op_buildSlice hF tab rfl rfl rfl rfl rfl rfl rfl rfl hH ?_
  intro bs A w hF hH
  refine ⟨(fun _ => Keeps.of hH.tail (K.le.refl _)), ?_⟩
  have hH := hH
  refine dr_act (k := 11) (by kernel_rfl) rfl hF rfl ?_
  refine op_call hF rfl rfl rfl rfl rfl rfl isF63 (or_calls hH) ?_
  rintro e w ⟨rfl, hH⟩
  refine ⟨_, rfl, fun A hF => ?_⟩
  refine ⟨fun _ => Keeps.of hH (K.le.refl _), ?_⟩
  refine dr_more [] [row b1 (jenc p) 40, row b2 (jenc q) 40] [(12, 0)] 0 (K.le.refl _) tab (LFok.nil _ _) (by kernel_rfl) rfl hF hH (by kernel_rfl) rfl (by first | exact trivial | (simp only [All, inK_i64, inK_u64, inK_u32, inK_u8, inK_i32, max_i64, max_u64, IntKind.bits, Int.reduceToNat, Int.reduceAdd, Nat.reducePow, Int.reducePow, and_true, true_and, and_self] <;> omega)) ?_
  intro A hF
  refine dr_done (by kernel_rfl) ?_ _
  refine wp_ret ?_
  repeat (first | refine then_ret ?_ | refine blk_ret ?_ | refine ng_ret ?_)
  refine ret (M := []) (hs := []) tab hF hH rfl (by first | exact trivial | (simp only [All, inK_i64, inK_u64, inK_u32, inK_u8, inK_i32, max_i64, max_u64, IntKind.bits, Int.reduceToNat, Int.reduceAdd, Nat.reducePow, Int.reducePow, and_true, true_and, and_self] <;> omega)) ?_
  exact ⟨rfl, hH.tail.tail⟩
end
end Go.Proofs.Try
