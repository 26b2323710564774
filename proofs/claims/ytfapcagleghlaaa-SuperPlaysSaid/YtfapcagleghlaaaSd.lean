/- Contracts of the supertask's functions: a grant. -/
import Derived.Test.YtfapcagleghlaaaSc
set_option linter.all false
namespace Go.Proofs.Try
open Go Go.Sep

/-- The part that is best among the first n, or -1. -/
def bestN (at_ : Int) (ps : List Prt) : Nat → Int
  | 0 => -1
  | n + 1 => match ps[n]? with
    | none => bestN at_ ps n
    | some p => if at_ < p.rel then bestN at_ ps n else
      match ps[(bestN at_ ps n).toNat]? with
      | some q => if 0 ≤ bestN at_ ps n ∧ ordF q p < 0 then bestN at_ ps n else n
      | none => n
theorem bestN_range (at_ : Int) (ps : List Prt) : ∀ n : Nat, -1 ≤ bestN at_ ps n ∧ bestN at_ ps n < n := by
  intro n
  induction n with
  | zero => simp [bestN]
  | succ n ih =>
    simp only [bestN]
    split
    · omega
    · split
      · omega
      · split
        · split <;> omega
        · omega
def grantF (S : Sup) (at_ : Int) : Sup × Option Prt :=
  if S.last ≤ at_ ∧ at_ ≤ 1099511627776 then
    if bestN at_ S.ps S.ps.length < 0 then (⟨S.ps, at_, S.served, S.idle + 1⟩, none)
    else match S.ps[(bestN at_ S.ps S.ps.length).toNat]? with
      | none => (S, none)
      | some p => (⟨S.ps.set (bestN at_ S.ps S.ps.length).toNat (stepP p), at_, S.served + 1, S.idle⟩, some { p with left := p.left - 1 })
  else (S, none)
def zeroJ : Prt := ⟨0, 0, 0, 0, 0, 0, 0⟩
def gval : Option Prt → Value
  | some p => .tuple #[jval p, .bool true]
  | none => .tuple #[jval zeroJ, .bool false]
theorem ps_split (ps : List Prt) (i : Nat) (h : i < ps.length) (junk : List Value) : ∃ Z B, Z.length = i * 7 ∧ ps.flatMap penc ++ junk = Z ++ (penc ps[i] ++ B) ∧ ∀ p', (ps.set i p').flatMap penc ++ junk = Z ++ (penc p' ++ B) := by
  refine ⟨(ps.take i).flatMap penc, (ps.drop (i + 1)).flatMap penc ++ junk, ?_, ?_, fun p' => ?_⟩
  · have : ∀ l : List Prt, (l.flatMap penc).length = l.length * 7 := by
      intro l
      induction l with
      | nil => rfl
      | cons p l ih => rw [List.flatMap_cons, List.length_append, ih, List.length_cons, Nat.succ_mul]; simp [penc]; omega
    rw [this, List.length_take, Nat.min_eq_left (by omega)]
  · have e : ps = ps.take i ++ ps[i] :: ps.drop (i + 1) := by rw [← List.drop_eq_getElem_cons h, List.take_append_drop]
    have := congrArg (fun l => l.flatMap penc ++ junk) e
    simp only [List.flatMap_append, List.flatMap_cons, List.append_assoc] at this
    exact this
  · have h' : i < (ps.set i p').length := by simpa using h
    conv => lhs; rw [← List.take_append_drop i (ps.set i p'), List.drop_eq_getElem_cons h']
    simp [List.take_set_of_le, List.drop_set_of_lt]
theorem jat (ps : List Prt) (i : Nat) (h : i < ps.length) (junk : List Value) : ∀ j u, (jenc ps[i])[j]? = some u → (ps.flatMap penc ++ junk)[0 + i * 7 + 2 + j]? = some u := by
  intro j u hu
  have := flatMap_penc_get ps i h junk (2 + j) u (by rw [show penc ps[i] = [.int .i64 ps[i].E, .int .i64 ps[i].P] ++ jenc ps[i] from rfl, List.getElem?_append_right (by simp)]; simpa using hu)
  rw [show 0 + i * 7 + 2 + j = 0 + i * 7 + (2 + j) from by omega]; exact this
theorem jz (Z B : List Value) (p : Prt) : ∀ j u, (jenc p)[j]? = some u → (Z ++ (penc p ++ B))[Z.length + 2 + j]? = some u := by
  intro j u hu
  rw [Nat.add_assoc]
  refine get_app Z _ (2 + j) ?_
  have hj : j < 5 := by
    rcases Nat.lt_or_ge j 5 with g | g
    · exact g
    · rw [List.getElem?_eq_none (by simpa [jenc] using g)] at hu; cases hu
  rw [List.getElem?_append_left (by simp [penc]; omega), show penc p = [.int .i64 p.E, .int .i64 p.P] ++ jenc p from rfl, List.getElem?_append_right (by simp)]
  simpa using hu
section
variable {κ : K} {w : World} {C : List HP}
set_option maxRecDepth 20000 in
theorem grant_calls {s : Nat} {S : Sup} (at_ : Int) (hp : ∀ p ∈ S.ps, PFit p) (hl : S.ps.length ≤ 8) (h1 : 0 ≤ S.served ∧ S.served ≤ 1125899906842624) (h2 : 0 ≤ S.idle ∧ S.idle ≤ 1125899906842624) (hH : Hp κ w (sup s S :: C)) :
    Calls Try.prog 14 #[.pointer (some ⟨s, 0, none⟩), .int .i64 at_] w (fun e w' => e = .returned (gval (grantF S at_).2) ∧ Hp κ w' (sup s (grantF S at_).1 :: C)) := by
  refine enter (args := [.pointer (some ⟨s, 0, none⟩), .int .i64 at_]) Try.func14 rfl rfl ?_
  intro A hF
  refine wp_seq ?_
  refine wp_region_lit ?_
  refine list_act hF rfl ?_
  refine op_alloc hF tab rfl rfl rfl rfl rfl hH ?_
  intro rb A w hF hH
  refine ev0 [0] tab hF hH rfl (by first | exact trivial | (simp only [All, inK_i64, inK_u64, inK_u32, inK_u8, inK_i32, max_i64, max_u64, IntKind.bits, Int.reduceToNat, Int.reduceAdd, Nat.reducePow, Int.reducePow, and_true, true_and, and_self] <;> omega)) ?_
  intro A w hF hH
  refine wpList_nil ?_
  refine wp_scope_straight ?_
  refine wp_seq ?_
  refine wp_seq ?_
  refine wp_region_lit ?_
  have hH := hH.swap
  refine ev0 [0, 0] tab hF hH rfl (by first | exact trivial | (simp only [All, inK_i64, inK_u64, inK_u32, inK_u8, inK_i32, max_i64, max_u64, IntKind.bits, Int.reduceToNat, Int.reduceAdd, Nat.reducePow, Int.reducePow, and_true, true_and, and_self] <;> omega)) ?_
  intro A w hF hH
  refine list_act hF rfl ?_
  refine op_call hF rfl rfl rfl rfl rfl rfl isF36 (slot_calls at_ hH) ?_
  rintro e w ⟨rfl, hH⟩
  refine ⟨_, rfl, fun A hF => ?_⟩
  by_cases hs : S.last ≤ at_ ∧ at_ ≤ 1099511627776
  · rw [show decide (S.last ≤ at_ ∧ at_ ≤ 1099511627776) = true from by simpa using hs] at hF
    refine ev0 [0] tab hF hH rfl (by first | exact trivial | (simp only [All, inK_i64, inK_u64, inK_u32, inK_u8, inK_i32, max_i64, max_u64, IntKind.bits, Int.reduceToNat, Int.reduceAdd, Nat.reducePow, Int.reducePow, and_true, true_and, and_self] <;> omega)) ?_
    intro A w hF hH
    refine wpList_nil ?_
    refine cond_f hF rfl rfl ?_
    refine wp_skip ?_
    refine wp_seq ?_
    refine wp_region_lit ?_
    obtain ⟨b, cap, junk, hcap, hH⟩ := sup_open hH
    generalize hn : S.ps.length = n at *
    refine evM [⟨s, [.slice (some ⟨b, 0, none⟩) n cap, .int .i64 S.last, .int .i64 S.served, .int .i64 S.idle], 72⟩] [0, 0, 0, 0, 0] tab hF hH rfl (by first | exact trivial | (simp only [All, inK_i64, inK_u64, inK_u32, inK_u8, inK_i32, max_i64, max_u64, IntKind.bits, Int.reduceToNat, Int.reduceAdd, Nat.reducePow, Int.reducePow, and_true, true_and, and_self] <;> omega)) ?_
    intro A w hF hH
    refine wpList_nil ?_
    refine wp_seq ?_
    refine wp_region_lit ?_
    refine ev0 [0] tab hF hH rfl (by first | exact trivial | (simp only [All, inK_i64, inK_u64, inK_u32, inK_u8, inK_i32, max_i64, max_u64, IntKind.bits, Int.reduceToNat, Int.reduceAdd, Nat.reducePow, Int.reducePow, and_true, true_and, and_self] <;> omega)) ?_
    intro A w hF hH
    refine wpList_nil ?_
    refine wp_seq ?_
    refine wp_label ?_
    refine wp_seq ?_
    refine wp_seq ?_
    refine wp_region_lit ?_
    refine evM [⟨s, [.slice (some ⟨b, 0, none⟩) n cap, .int .i64 at_, .int .i64 S.served, .int .i64 S.idle], 72⟩] [0, 0, 0, 0, 0, 0] tab hF hH rfl (by first | exact trivial | (simp only [All, inK_i64, inK_u64, inK_u32, inK_u8, inK_i32, max_i64, max_u64, IntKind.bits, Int.reduceToNat, Int.reduceAdd, Nat.reducePow, Int.reducePow, and_true, true_and, and_self] <;> omega)) ?_
    intro A w hF hH
    refine wpList_nil ?_
    refine wp_block ?_
    refine loop_j (fun (i : Nat) A w => i ≤ n ∧ Fr 101 A [(25, .int .i64 i), (24, .int .i64 n), (6, .int .i64 (bestN at_ S.ps i)), (0, .pointer (some ⟨s, 0, none⟩)), (1, .int .i64 at_), (4, .pointer (some ⟨rb, 0, none⟩))] ∧ Hp κ w (row s [.slice (some ⟨b, 0, none⟩) n cap, .int .i64 at_, .int .i64 S.served, .int .i64 S.idle] 72 :: row b (S.ps.flatMap penc ++ junk) 74 :: row rb (jenc zeroJ) 40 :: C)) (fun i => n - i) 0 ⟨Nat.zero_le _, Fr.to hF ⟨rfl, rfl, rfl, rfl, rfl, rfl, trivial⟩, hH⟩ ?_
    rintro i A w ⟨hi, hF, hH⟩
    refine wp_seq ?_
    refine wp_region_lit ?_
    have hbr := bestN_range at_ S.ps i
    by_cases hlt : i < n
    · refine ev0 [1] tab hF hH rfl (by first | exact trivial | (simp only [All, inK_i64, inK_u64, inK_u32, inK_u8, inK_i32, max_i64, max_u64, IntKind.bits, Int.reduceToNat, Int.reduceAdd, Nat.reducePow, Int.reducePow, and_true, true_and, and_self] <;> omega)) ?_
      intro A w hF hH
      refine wpList_nil ?_
      refine wp_seq ?_
      refine cond_t hF rfl rfl ?_
      refine wp_skip ?_
      refine wp_seq ?_
      refine wp_block ?_
      refine wp_seq ?_
      refine wp_region_lit ?_
      have hlt' : i < S.ps.length := by omega
      have hbn : bestN at_ S.ps (i + 1) = if at_ < (S.ps[i]).rel then bestN at_ S.ps i else
          match S.ps[(bestN at_ S.ps i).toNat]? with
          | some q => if 0 ≤ bestN at_ S.ps i ∧ ordF q S.ps[i] < 0 then bestN at_ S.ps i else i
          | none => i := by
        conv => lhs; unfold bestN
        rw [List.getElem?_eq_getElem hlt']
      have hpi := hp S.ps[i] (List.getElem_mem hlt')
      have hat := At.own (κ := κ) (X := [row b (S.ps.flatMap penc ++ junk) 74]) (off := 0 + i * 7 + 2) (vs := jenc S.ps[i]) 0 rfl (jat S.ps i hlt' junk)
      refine ev0 [0, 0] tab hF hH rfl (by first | exact trivial | (simp only [All, inK_i64, inK_u64, inK_u32, inK_u8, inK_i32, max_i64, max_u64, IntKind.bits, Int.reduceToNat, Int.reduceAdd, Nat.reducePow, Int.reducePow, and_true, true_and, and_self] <;> omega)) ?_
      intro A w hF hH
      refine wpList_nil ?_
      refine wp_seq ?_
      refine wp_region_lit ?_
      refine evF [⟨s, [.slice (some ⟨b, 0, none⟩) n cap, .int .i64 at_, .int .i64 S.served, .int .i64 S.idle], 72⟩] [row b (S.ps.flatMap penc ++ junk) 74] (LFok.cons hat (LFok.nil _ _)) [0, 0, 0, 0, 0, 0, 0, 1] tab hF hH rfl (by first | exact trivial | (simp only [All, inK_i64, inK_u64, inK_u32, inK_u8, inK_i32, max_i64, max_u64, IntKind.bits, Int.reduceToNat, Int.reduceAdd, Nat.reducePow, Int.reducePow, and_true, true_and, and_self] <;> omega)) ?_
      intro A w hF hH
      generalize S.ps[i] = p at *
      refine list_act hF rfl ?_
      refine op_alloc hF tab rfl rfl rfl rfl rfl hH ?_
      intro b8 A w hF hH
      refine evM [⟨b8, (jenc zeroJ), 40⟩] [0] tab hF hH rfl (by first | exact trivial | (simp only [All, inK_i64, inK_u64, inK_u32, inK_u8, inK_i32, max_i64, max_u64, IntKind.bits, Int.reduceToNat, Int.reduceAdd, Nat.reducePow, Int.reducePow, and_true, true_and, and_self] <;> omega)) ?_
      intro A w hF hH
      refine wpList_nil ?_
      refine wp_seq ?_
      refine wp_seq ?_
      by_cases hrel : at_ < p.rel
      · refine dr_all (by kernel_rfl) [] [row b8 (jenc p) 40] [(0, 0), (1, 1), (2, 0), (3, 1), (4, 0), (5, 0), (6, 0), (7, 0), (8, 0), (9, 0), (10, 0), (11, 0), (12, 0), (13, 0), (14, 0), (15, 0), (16, 0), (17, 0), (18, 0), (19, 0), (20, 0)] tab (LFok.cons (At.own (off := 2) (vs := [.int .i64 p.rel]) 0 rfl (own1 rfl)) (LFok.nil _ _)) (by kernel_rfl) rfl hF hH (by kernel_rfl) (by kernel_rfl) rfl (by first | exact trivial | (simp only [All, inK_i64, inK_u64, inK_u32, inK_u8, inK_i32, max_i64, max_u64, IntKind.bits, Int.reduceToNat, Int.reduceAdd, Nat.reducePow, Int.reducePow, and_true, true_and, and_self] <;> omega)) ?_
        intro A w hF hH
        refine cond_t hF rfl rfl ?_
        refine wp_exit ?_
        repeat (first | refine then_exit ?_ | refine ng_exit ?_ | refine blk_exit ?_ | refine blk_exit_ne rfl ?_)
        refine wp_region_lit ?_
        refine ev0 [0, 0] tab hF hH rfl (by first | exact trivial | (simp only [All, inK_i64, inK_u64, inK_u32, inK_u8, inK_i32, max_i64, max_u64, IntKind.bits, Int.reduceToNat, Int.reduceAdd, Nat.reducePow, Int.reducePow, and_true, true_and, and_self] <;> omega)) ?_
        intro A w hF hH
        refine wpList_nil ?_
        exact ⟨i + 1, ⟨by omega, Fr.to hF ⟨rfl, rfl, by rw [hbn, if_pos hrel]; rfl, rfl, rfl, rfl, trivial⟩, hH.tail⟩, by omega⟩
      · by_cases hb0 : bestN at_ S.ps i < 0
        · skip
          refine dr_all (by kernel_rfl) [] [row b8 (jenc p) 40] [(0, 0), (1, 1), (2, 0), (3, 2), (4, 0), (5, 0), (6, 2), (7, 0), (8, 0), (9, 0), (10, 0), (11, 0), (12, 0), (13, 0), (14, 0), (15, 0), (16, 0), (17, 0), (18, 0), (19, 0), (20, 0)] tab (LFok.cons (At.own (off := 2) (vs := [.int .i64 p.rel]) 0 rfl (own1 rfl)) (LFok.nil _ _)) (by kernel_rfl) rfl hF hH (by kernel_rfl) (by kernel_rfl) rfl (by first | exact trivial | (simp only [All, inK_i64, inK_u64, inK_u32, inK_u8, inK_i32, max_i64, max_u64, IntKind.bits, Int.reduceToNat, Int.reduceAdd, Nat.reducePow, Int.reducePow, and_true, true_and, and_self] <;> omega)) ?_
          intro A w hF hH
          refine cond_f hF rfl rfl ?_
          refine wp_skip ?_
          refine wp_region_lit ?_
          refine ev0 [0, 0] tab hF hH rfl (by first | exact trivial | (simp only [All, inK_i64, inK_u64, inK_u32, inK_u8, inK_i32, max_i64, max_u64, IntKind.bits, Int.reduceToNat, Int.reduceAdd, Nat.reducePow, Int.reducePow, and_true, true_and, and_self] <;> omega)) ?_
          intro A w hF hH
          refine wpList_nil ?_
          refine wp_region_lit ?_
          refine ev0 [0, 0] tab hF hH rfl (by first | exact trivial | (simp only [All, inK_i64, inK_u64, inK_u32, inK_u8, inK_i32, max_i64, max_u64, IntKind.bits, Int.reduceToNat, Int.reduceAdd, Nat.reducePow, Int.reducePow, and_true, true_and, and_self] <;> omega)) ?_
          intro A w hF hH
          refine wpList_nil ?_
          have hbn2 : bestN at_ S.ps (i + 1) = i := by
            rw [hbn, if_neg hrel]
            split
            · rw [if_neg (by omega)]
            · rfl
          exact ⟨i + 1, ⟨by omega, Fr.to hF ⟨rfl, rfl, by rw [hbn2]; rfl, rfl, rfl, rfl, trivial⟩, hH.tail⟩, by omega⟩
        · obtain ⟨k, hk⟩ : ∃ k : Nat, bestN at_ S.ps i = k := ⟨_, (Int.toNat_of_nonneg (by omega)).symm⟩
          have hkl : k < S.ps.length := by omega
          have hat2 := At.own (κ := κ) (X := [row b8 (jenc p) 40, row s [.slice (some ⟨b, 0, none⟩) n cap, .int .i64 at_, .int .i64 S.served, .int .i64 S.idle] 72, row b (S.ps.flatMap penc ++ junk) 74]) (off := 0 + k * 7 + 2) (vs := jenc S.ps[k]) 2 rfl (jat S.ps k hkl junk)
          rw [hk, if_neg hrel, Int.toNat_natCast, List.getElem?_eq_getElem hkl] at hbn
          simp only at hbn
          rw [hk] at hF
          generalize S.ps[k] = q at *
          refine dr_reads (by kernel_rfl) [] [row b8 (jenc p) 40, row s [.slice (some ⟨b, 0, none⟩) n cap, .int .i64 at_, .int .i64 S.served, .int .i64 S.idle] 72, row b (S.ps.flatMap penc ++ junk) 74] [] [(0, 0), (1, 1), (2, 0), (3, 2), (4, 0), (5, 0), (6, 1), (7, 0), (8, 0), (9, 0), (10, 0), (11, 3), (12, 0), (13, 0), (14, 0), (15, 5), (16, 7)] 4 tab (LFok.cons (At.own (off := 2) (vs := [.int .i64 p.rel]) 0 rfl (own1 rfl)) (LFok.cons (At.own (off := 0) (vs := [.slice (some ⟨b, 0, none⟩) n cap]) 1 rfl (own1 rfl)) (LFok.cons hat2 (LFok.cons (At.own (off := 0) (vs := jenc p) 0 rfl (fun j u h => by simpa using h)) (LFok.nil _ _))))) (by kernel_rfl) rfl hF hH (by kernel_rfl) rfl (by first | exact trivial | (simp only [All, inK_i64, inK_u64, inK_u32, inK_u8, inK_i32, max_i64, max_u64, IntKind.bits, Int.reduceToNat, Int.reduceAdd, Nat.reducePow, Int.reducePow, and_true, true_and, and_self] <;> omega)) ?_
          intro A w hF hH
          refine dr_act (k := 17) (by kernel_rfl) rfl hF rfl ?_
          refine op_call hF rfl rfl rfl rfl rfl rfl isF37 (order_calls q p hH) ?_
          rintro e w ⟨rfl, hH⟩
          refine ⟨_, rfl, fun A hF => ?_⟩
          refine ⟨fun _ => Keeps.of hH (K.le.refl _), ?_⟩
          by_cases ho : ordF q p < 0
          · refine dr_more [] [row b8 (jenc p) 40, row s [.slice (some ⟨b, 0, none⟩) n cap, .int .i64 at_, .int .i64 S.served, .int .i64 S.idle] 72, row b (S.ps.flatMap penc ++ junk) 74] [(18, 1), (19, 0), (20, 0)] 0 (K.le.refl _) tab (LFok.nil _ _) (by kernel_rfl) rfl hF hH (by kernel_rfl) rfl (by first | exact trivial | (simp only [All, inK_i64, inK_u64, inK_u32, inK_u8, inK_i32, max_i64, max_u64, IntKind.bits, Int.reduceToNat, Int.reduceAdd, Nat.reducePow, Int.reducePow, and_true, true_and, and_self] <;> omega)) ?_
            intro A hF
            refine dr_done (by kernel_rfl) ?_ _
            refine cond_t hF rfl rfl ?_
            refine wp_exit ?_
            repeat (first | refine then_exit ?_ | refine ng_exit ?_ | refine blk_exit ?_ | refine blk_exit_ne rfl ?_)
            refine wp_region_lit ?_
            refine ev0 [0, 0] tab hF hH rfl (by first | exact trivial | (simp only [All, inK_i64, inK_u64, inK_u32, inK_u8, inK_i32, max_i64, max_u64, IntKind.bits, Int.reduceToNat, Int.reduceAdd, Nat.reducePow, Int.reducePow, and_true, true_and, and_self] <;> omega)) ?_
            intro A w hF hH
            refine wpList_nil ?_
            exact ⟨i + 1, ⟨by omega, Fr.to hF ⟨rfl, rfl, by rw [hbn, if_pos ⟨by omega, ho⟩]; rfl, rfl, rfl, rfl, trivial⟩, hH.tail⟩, by omega⟩
          · skip
            refine dr_more [] [row b8 (jenc p) 40, row s [.slice (some ⟨b, 0, none⟩) n cap, .int .i64 at_, .int .i64 S.served, .int .i64 S.idle] 72, row b (S.ps.flatMap penc ++ junk) 74] [(18, 2), (19, 0), (20, 0)] 0 (K.le.refl _) tab (LFok.nil _ _) (by kernel_rfl) rfl hF hH (by kernel_rfl) rfl (by first | exact trivial | (simp only [All, inK_i64, inK_u64, inK_u32, inK_u8, inK_i32, max_i64, max_u64, IntKind.bits, Int.reduceToNat, Int.reduceAdd, Nat.reducePow, Int.reducePow, and_true, true_and, and_self] <;> omega)) ?_
            intro A hF
            refine dr_done (by kernel_rfl) ?_ _
            refine cond_f hF rfl rfl ?_
            refine wp_skip ?_
            refine wp_region_lit ?_
            refine ev0 [0, 0] tab hF hH rfl (by first | exact trivial | (simp only [All, inK_i64, inK_u64, inK_u32, inK_u8, inK_i32, max_i64, max_u64, IntKind.bits, Int.reduceToNat, Int.reduceAdd, Nat.reducePow, Int.reducePow, and_true, true_and, and_self] <;> omega)) ?_
            intro A w hF hH
            refine wpList_nil ?_
            refine wp_region_lit ?_
            refine ev0 [0, 0] tab hF hH rfl (by first | exact trivial | (simp only [All, inK_i64, inK_u64, inK_u32, inK_u8, inK_i32, max_i64, max_u64, IntKind.bits, Int.reduceToNat, Int.reduceAdd, Nat.reducePow, Int.reducePow, and_true, true_and, and_self] <;> omega)) ?_
            intro A w hF hH
            refine wpList_nil ?_
            exact ⟨i + 1, ⟨by omega, Fr.to hF ⟨rfl, rfl, by rw [hbn, if_neg (fun h => ho h.2)]; rfl, rfl, rfl, rfl, trivial⟩, hH.tail⟩, by omega⟩
    · skip
      refine ev0 [2] tab hF hH rfl (by first | exact trivial | (simp only [All, inK_i64, inK_u64, inK_u32, inK_u8, inK_i32, max_i64, max_u64, IntKind.bits, Int.reduceToNat, Int.reduceAdd, Nat.reducePow, Int.reducePow, and_true, true_and, and_self] <;> omega)) ?_
      intro A w hF hH
      refine wpList_nil ?_
      refine wp_seq ?_
      refine cond_f hF rfl rfl ?_
      refine wp_exit ?_
      repeat (first | refine then_exit ?_ | refine ng_exit ?_ | refine blk_exit ?_ | refine blk_exit_ne rfl ?_)
      refine wp_seq ?_
      refine wp_seq ?_
      refine wp_region_lit ?_
      have hin : i = n := by omega
      subst hin
      by_cases hb0 : bestN at_ S.ps i < 0
      · refine ev0 [0, 1] tab hF hH rfl (by first | exact trivial | (simp only [All, inK_i64, inK_u64, inK_u32, inK_u8, inK_i32, max_i64, max_u64, IntKind.bits, Int.reduceToNat, Int.reduceAdd, Nat.reducePow, Int.reducePow, and_true, true_and, and_self] <;> omega)) ?_
        intro A w hF hH
        refine wpList_nil ?_
        refine cond_t hF rfl rfl ?_
        refine wp_seq ?_
        refine wp_region_lit ?_
        refine evM [⟨s, [.slice (some ⟨b, 0, none⟩) i cap, .int .i64 at_, .int .i64 S.served, .int .i64 S.idle], 72⟩] [0, 0, 0, 0, 0, 0, 0, 0] tab hF hH rfl (by first | exact trivial | (simp only [All, inK_i64, inK_u64, inK_u32, inK_u8, inK_i32, max_i64, max_u64, IntKind.bits, Int.reduceToNat, Int.reduceAdd, Nat.reducePow, Int.reducePow, and_true, true_and, and_self] <;> omega)) ?_
        intro A w hF hH
        refine wpList_nil ?_
        refine wp_seq ?_
        refine wp_region_lit ?_
        have hH := hH.focus 2 rfl
        refine evM [⟨rb, (jenc zeroJ), 40⟩] [0, 0, 0] tab hF hH rfl (by first | exact trivial | (simp only [All, inK_i64, inK_u64, inK_u32, inK_u8, inK_i32, max_i64, max_u64, IntKind.bits, Int.reduceToNat, Int.reduceAdd, Nat.reducePow, Int.reducePow, and_true, true_and, and_self] <;> omega)) ?_
        intro A w hF hH
        refine wpList_nil ?_
        refine wp_ret ?_
        repeat (first | refine then_ret ?_ | refine blk_ret ?_ | refine ng_ret ?_)
        refine ret (M := [⟨rb, (jenc zeroJ), 40⟩]) (hs := [0]) tab hF hH rfl (by first | exact trivial | (simp only [All, inK_i64, inK_u64, inK_u32, inK_u8, inK_i32, max_i64, max_u64, IntKind.bits, Int.reduceToNat, Int.reduceAdd, Nat.reducePow, Int.reducePow, and_true, true_and, and_self] <;> omega)) ?_
        rw [show grantF S at_ = (⟨S.ps, at_, S.served, S.idle + 1⟩, none) from by simp only [grantF, if_pos hs, hn, if_pos hb0]]
        exact ⟨rfl, sup_close (n := 0) (S := ⟨S.ps, at_, S.served, S.idle + 1⟩) hn.symm rfl rfl rfl (by rw [hn]; exact hcap) hH.tail⟩
      · obtain ⟨k, hk⟩ : ∃ k : Nat, bestN at_ S.ps i = k := ⟨_, (Int.toNat_of_nonneg (by omega)).symm⟩
        have hkl : k < S.ps.length := by omega
        have hg : grantF S at_ = (⟨S.ps.set k (stepP S.ps[k]), at_, S.served + 1, S.idle⟩, some { S.ps[k] with left := S.ps[k].left - 1 }) := by
          simp only [grantF, if_pos hs, hn, if_neg hb0, hk, Int.toNat_natCast, List.getElem?_eq_getElem hkl]
          rw [if_neg (by omega)]
        obtain ⟨Z, B, hZ, hcs, hset⟩ := ps_split S.ps k hkl junk
        have hpk := hp S.ps[k] (List.getElem_mem hkl)
        have hset := hset (stepP S.ps[k])
        rw [hcs] at hH
        rw [hk] at hF
        generalize S.ps[k] = p at *
        refine ev0 [0, 2] tab hF hH rfl (by first | exact trivial | (simp only [All, inK_i64, inK_u64, inK_u32, inK_u8, inK_i32, max_i64, max_u64, IntKind.bits, Int.reduceToNat, Int.reduceAdd, Nat.reducePow, Int.reducePow, and_true, true_and, and_self] <;> omega)) ?_
        intro A w hF hH
        refine wpList_nil ?_
        refine cond_f hF rfl rfl ?_
        refine wp_skip ?_
        refine wp_seq ?_
        refine wp_region_lit ?_
        refine evM [⟨s, [.slice (some ⟨b, 0, none⟩) i cap, .int .i64 at_, .int .i64 S.served, .int .i64 S.idle], 72⟩] [0, 0, 0, 0, 0, 0, 0, 0] tab hF hH rfl (by first | exact trivial | (simp only [All, inK_i64, inK_u64, inK_u32, inK_u8, inK_i32, max_i64, max_u64, IntKind.bits, Int.reduceToNat, Int.reduceAdd, Nat.reducePow, Int.reducePow, and_true, true_and, and_self] <;> omega)) ?_
        intro A w hF hH
        refine wpList_nil ?_
        refine wp_seq ?_
        refine wp_region_lit ?_
        refine evM [⟨s, [.slice (some ⟨b, 0, none⟩) i cap, .int .i64 at_, .int .i64 (S.served + 1), .int .i64 S.idle], 72⟩] [0, 0, 0, 0, 0, 0, 0] tab hF hH rfl (by first | exact trivial | (simp only [All, inK_i64, inK_u64, inK_u32, inK_u8, inK_i32, max_i64, max_u64, IntKind.bits, Int.reduceToNat, Int.reduceAdd, Nat.reducePow, Int.reducePow, and_true, true_and, and_self] <;> omega)) ?_
        intro A w hF hH
        simp only [Int.toNat_natCast, Nat.zero_add, ← hZ] at hF
        refine wpList_nil ?_
        refine wp_seq ?_
        refine wp_region_lit ?_
        obtain ⟨p', hp'⟩ : ∃ p' : Prt, p' = { p with left := p.left - 1 } := ⟨_, rfl⟩
        have hl0 := hpk.left0
        have hl1 := hpk.left1
        have hH := hH.swap
        refine evF [] [row b (Z ++ (penc p ++ B)) 74] (LFok.cons (At.own (off := Z.length + 6) (vs := [.int .i64 p.left]) 0 rfl (own1 (get_app Z _ 6 rfl))) (LFok.nil _ _)) [0, 0, 0, 0, 1, 0, 0, 0, 0] tab hF hH rfl (by first | exact trivial | (simp only [All, inK_i64, inK_u64, inK_u32, inK_u8, inK_i32, max_i64, max_u64, IntKind.bits, Int.reduceToNat, Int.reduceAdd, Nat.reducePow, Int.reducePow, and_true, true_and, and_self] <;> omega)) ?_
        intro A w hF hH
        refine list_act hF rfl ?_
        refine op_storeS hF tab rfl rfl rfl rfl rfl rfl (by simp [penc]; omega) hH ?_
        intro A w hF hH
        refine wpList_nil ?_
        refine wp_seq ?_
        refine wp_region_lit ?_
        have hH := upd Z (x' := penc p' ++ B) 6 (by rw [hp']; rfl) hH
        refine evF [] [row b (Z ++ (penc p' ++ B)) 74] (LFok.cons (At.own (off := Z.length + 2) (vs := jenc p') 0 rfl (jz Z B p')) (LFok.nil _ _)) [0, 0, 0, 1] tab hF hH rfl (by first | exact trivial | (simp only [All, inK_i64, inK_u64, inK_u32, inK_u8, inK_i32, max_i64, max_u64, IntKind.bits, Int.reduceToNat, Int.reduceAdd, Nat.reducePow, Int.reducePow, and_true, true_and, and_self] <;> omega)) ?_
        intro A w hF hH
        refine list_act hF rfl ?_
        refine op_alloc hF tab rfl rfl rfl rfl rfl hH ?_
        intro b10 A w hF hH
        refine evM [⟨b10, (jenc zeroJ), 40⟩] [0] tab hF hH rfl (by first | exact trivial | (simp only [All, inK_i64, inK_u64, inK_u32, inK_u8, inK_i32, max_i64, max_u64, IntKind.bits, Int.reduceToNat, Int.reduceAdd, Nat.reducePow, Int.reducePow, and_true, true_and, and_self] <;> omega)) ?_
        intro A w hF hH
        refine wpList_nil ?_
        refine wp_seq ?_
        refine wp_seq ?_
        refine wp_region_lit ?_
        have hfit : PFit p' ∨ p'.left < 0 := by
          rcases Int.lt_or_le p'.left 0 with h | h
          · exact .inr h
          · left
            subst hp'
            obtain ⟨g1, g2, g3, g4, g5, g6, g7, g8, g9, g10, g11⟩ := hpk
            exact ⟨g1, g2, g3, g4, g5, g6, g7, g8, g9, h, by simp only; omega⟩
        by_cases hz : p'.left = 0
        · refine evM [⟨b10, (jenc p'), 40⟩] [0, 0, 1] tab hF hH rfl (by first | exact trivial | (simp only [All, inK_i64, inK_u64, inK_u32, inK_u8, inK_i32, max_i64, max_u64, IntKind.bits, Int.reduceToNat, Int.reduceAdd, Nat.reducePow, Int.reducePow, and_true, true_and, and_self] <;> omega)) ?_
          intro A w hF hH
          refine wpList_nil ?_
          refine cond_t hF rfl rfl ?_
          refine wp_region_lit ?_
          have hH := hH.swap
          refine ev0 [0] tab hF hH rfl (by first | exact trivial | (simp only [All, inK_i64, inK_u64, inK_u32, inK_u8, inK_i32, max_i64, max_u64, IntKind.bits, Int.reduceToNat, Int.reduceAdd, Nat.reducePow, Int.reducePow, and_true, true_and, and_self] <;> omega)) ?_
          intro A w hF hH
          have hfit' : PFit p' := hfit.resolve_right (by omega)
          refine list_act hF rfl ?_
          refine op_call hF rfl rfl rfl rfl rfl rfl isF38 (next_calls Z B p' hfit' hH) ?_
          rintro e w ⟨rfl, hH⟩
          refine ⟨_, rfl, fun A hF => ?_⟩
          refine wpList_nil ?_
          refine wp_seq ?_
          refine wp_region_lit ?_
          have hH := (hH.focus 3 rfl).focus 2 rfl
          refine evM [⟨b10, (jenc p'), 40⟩, ⟨rb, (jenc zeroJ), 40⟩] [0, 1, 0] tab hF hH rfl (by first | exact trivial | (simp only [All, inK_i64, inK_u64, inK_u32, inK_u8, inK_i32, max_i64, max_u64, IntKind.bits, Int.reduceToNat, Int.reduceAdd, Nat.reducePow, Int.reducePow, and_true, true_and, and_self] <;> omega)) ?_
          intro A w hF hH
          refine wpList_nil ?_
          refine wp_ret ?_
          repeat (first | refine then_ret ?_ | refine blk_ret ?_ | refine ng_ret ?_)
          refine ret (M := [⟨b10, (jenc p'), 40⟩, ⟨rb, (jenc p'), 40⟩]) (hs := [1]) tab hF hH rfl (by first | exact trivial | (simp only [All, inK_i64, inK_u64, inK_u32, inK_u8, inK_i32, max_i64, max_u64, IntKind.bits, Int.reduceToNat, Int.reduceAdd, Nat.reducePow, Int.reducePow, and_true, true_and, and_self] <;> omega)) ?_
          rw [hg]
          have hstep : stepP p = nextP p' := by subst hp'; exact if_pos hz
          rw [hstep] at hset ⊢
          rw [← hset] at hH
          refine ⟨by rw [← hp']; rfl, sup_close (n := 0) (S := ⟨S.ps.set k (nextP p'), at_, S.served + 1, S.idle⟩) (by simpa using hn.symm) rfl rfl rfl (by simpa [hn] using hcap) hH.tail.tail.swap⟩
        · skip
          refine evM [⟨b10, (jenc p'), 40⟩] [0, 0, 2] tab hF hH rfl (by first | exact trivial | (simp only [All, inK_i64, inK_u64, inK_u32, inK_u8, inK_i32, max_i64, max_u64, IntKind.bits, Int.reduceToNat, Int.reduceAdd, Nat.reducePow, Int.reducePow, and_true, true_and, and_self] <;> omega)) ?_
          intro A w hF hH
          refine wpList_nil ?_
          refine cond_f hF rfl rfl ?_
          refine wp_skip ?_
          refine wp_seq ?_
          refine wp_region_lit ?_
          have hH := (hH.focus 3 rfl).focus 1 rfl
          refine evM [⟨b10, (jenc p'), 40⟩, ⟨rb, (jenc zeroJ), 40⟩] [0, 1, 0] tab hF hH rfl (by first | exact trivial | (simp only [All, inK_i64, inK_u64, inK_u32, inK_u8, inK_i32, max_i64, max_u64, IntKind.bits, Int.reduceToNat, Int.reduceAdd, Nat.reducePow, Int.reducePow, and_true, true_and, and_self] <;> omega)) ?_
          intro A w hF hH
          refine wpList_nil ?_
          refine wp_ret ?_
          repeat (first | refine then_ret ?_ | refine blk_ret ?_ | refine ng_ret ?_)
          refine ret (M := [⟨b10, (jenc p'), 40⟩, ⟨rb, (jenc p'), 40⟩]) (hs := [1]) tab hF hH rfl (by first | exact trivial | (simp only [All, inK_i64, inK_u64, inK_u32, inK_u8, inK_i32, max_i64, max_u64, IntKind.bits, Int.reduceToNat, Int.reduceAdd, Nat.reducePow, Int.reducePow, and_true, true_and, and_self] <;> omega)) ?_
          rw [hg]
          have hstep : stepP p = p' := by subst hp'; exact if_neg hz
          rw [hstep] at hset ⊢
          rw [← hset] at hH
          refine ⟨by rw [← hp']; rfl, sup_close (n := 0) (S := ⟨S.ps.set k p', at_, S.served + 1, S.idle⟩) (by simpa using hn.symm) rfl rfl rfl (by simpa [hn] using hcap) hH.tail.tail.swap⟩
  · skip
    rw [show decide (S.last ≤ at_ ∧ at_ ≤ 1099511627776) = false from by simpa using hs] at hF
    refine ev0 [0] tab hF hH rfl (by first | exact trivial | (simp only [All, inK_i64, inK_u64, inK_u32, inK_u8, inK_i32, max_i64, max_u64, IntKind.bits, Int.reduceToNat, Int.reduceAdd, Nat.reducePow, Int.reducePow, and_true, true_and, and_self] <;> omega)) ?_
    intro A w hF hH
    refine wpList_nil ?_
    refine cond_t hF rfl rfl ?_
    refine wp_seq ?_
    refine wp_region_lit ?_
    have hH := hH.swap
    refine evM [⟨rb, (jenc zeroJ), 40⟩] [0, 0, 0] tab hF hH rfl (by first | exact trivial | (simp only [All, inK_i64, inK_u64, inK_u32, inK_u8, inK_i32, max_i64, max_u64, IntKind.bits, Int.reduceToNat, Int.reduceAdd, Nat.reducePow, Int.reducePow, and_true, true_and, and_self] <;> omega)) ?_
    intro A w hF hH
    refine wpList_nil ?_
    refine wp_ret ?_
    repeat (first | refine then_ret ?_ | refine blk_ret ?_ | refine ng_ret ?_)
    refine ret (M := [⟨rb, (jenc zeroJ), 40⟩]) (hs := [0]) tab hF hH rfl (by first | exact trivial | (simp only [All, inK_i64, inK_u64, inK_u32, inK_u8, inK_i32, max_i64, max_u64, IntKind.bits, Int.reduceToNat, Int.reduceAdd, Nat.reducePow, Int.reducePow, and_true, true_and, and_self] <;> omega)) ?_
    rw [grantF, if_neg hs]
    exact ⟨rfl, hH.tail⟩
end
end Go.Proofs.Try
