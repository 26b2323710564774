/- Contracts of the supertask's functions: a new one. -/
import Derived.Test.YtfapcagleghlaaaSb
set_option linter.all false
namespace Go.Proofs.Try
open Go Go.Sep

def newP (at_ : Int) (i : Nat) (p : Int × Int) : Prt := ⟨p.1, p.2, i, 0, at_, at_ + p.2, p.1⟩
def newPs (at_ : Int) (ps : List (Int × Int)) : List Prt := ps.mapIdx (newP at_)
def newS (at_ : Int) (ps : List (Int × Int)) : Sup := ⟨newPs at_ ps, at_, 0, 0⟩
section
variable {κ : K} {w : World} {C : List HP}
theorem osl_sv {v : Value} {E sz m : Nat} {cs : List Value} (h : Hp κ w (osl v E sz m cs :: C)) : ∃ x : SV, v = x.v := by
  rcases osl_cases h with ⟨rfl, _⟩ | ⟨b, cap, cur, rfl, _⟩
  · exact ⟨⟨none, 0, 0⟩, rfl⟩
  · exact ⟨⟨_, _, _⟩, rfl⟩
set_option maxRecDepth 20000 in
theorem new_nil_calls {v : Value} {ps : List (Int × Int)} (at_ : Int) (hv : Rd κ [] 2 wenc v ps) (hp : ∀ p ∈ ps, POk p) (hlen : ps.length ≤ 8) (he : (weightF ps).2.2 ≠ 0) (hH : Hp κ w C) :
    Calls Try.prog 11 #[v, .int .i64 at_] w (fun e w' => e = .returned (.pointer none) ∧ Hp κ w' C) := by
  refine enter (args := [v, .int .i64 at_]) Try.func11 rfl rfl ?_
  intro A hF
  refine wp_seq ?_
  refine wp_region_lit ?_
  refine ev0 [0] tab hF hH rfl (by first | exact trivial | (simp only [All, inK_i64, inK_u64, inK_u32, inK_u8, inK_i32, max_i64, max_u64, IntKind.bits, Int.reduceToNat, Int.reduceAdd, Nat.reducePow, Int.reducePow, and_true, true_and, and_self] <;> omega)) ?_
  intro A w hF hH
  refine wpList_nil ?_
  refine wp_seq ?_
  refine wp_region_lit ?_
  refine ev0 [0] tab hF hH rfl (by first | exact trivial | (simp only [All, inK_i64, inK_u64, inK_u32, inK_u8, inK_i32, max_i64, max_u64, IntKind.bits, Int.reduceToNat, Int.reduceAdd, Nat.reducePow, Int.reducePow, and_true, true_and, and_self] <;> omega)) ?_
  intro A w hF hH
  refine list_act hF rfl ?_
  refine op_call hF rfl rfl rfl rfl rfl rfl isF10 (sweight_calls hv hp hlen hH) ?_
  rintro e w ⟨rfl, hH⟩
  refine ⟨_, rfl, fun A hF => ?_⟩
  refine ev0 [0, 0, 0] tab hF hH rfl (by first | exact trivial | (simp only [All, inK_i64, inK_u64, inK_u32, inK_u8, inK_i32, max_i64, max_u64, IntKind.bits, Int.reduceToNat, Int.reduceAdd, Nat.reducePow, Int.reducePow, and_true, true_and, and_self] <;> omega)) ?_
  intro A w hF hH
  refine list_act hF rfl ?_
  refine op_alloc hF tab rfl rfl rfl rfl rfl hH ?_
  intro b5 A w hF hH
  refine evM [⟨b5, [.int .i64 0, .int .i64 0], 28⟩] [0, 0] tab hF hH rfl (by first | exact trivial | (simp only [All, inK_i64, inK_u64, inK_u32, inK_u8, inK_i32, max_i64, max_u64, IntKind.bits, Int.reduceToNat, Int.reduceAdd, Nat.reducePow, Int.reducePow, and_true, true_and, and_self] <;> omega)) ?_
  intro A w hF hH
  refine wpList_nil ?_
  refine wp_seq ?_
  refine wp_seq ?_
  refine wp_region_lit ?_
  refine ev0 [0, 1, 0, 0, 0, 0, 0, 0, 0, 0] tab hF hH rfl (by first | exact trivial | (simp only [All, inK_i64, inK_u64, inK_u32, inK_u8, inK_i32, max_i64, max_u64, IntKind.bits, Int.reduceToNat, Int.reduceAdd, Nat.reducePow, Int.reducePow, and_true, true_and, and_self] <;> omega)) ?_
  intro A w hF hH
  refine wpList_nil ?_
  refine cond_t hF rfl rfl ?_
  refine wp_seq ?_
  refine wp_region_lit ?_
  refine ev0 [0] tab hF hH rfl (by first | exact trivial | (simp only [All, inK_i64, inK_u64, inK_u32, inK_u8, inK_i32, max_i64, max_u64, IntKind.bits, Int.reduceToNat, Int.reduceAdd, Nat.reducePow, Int.reducePow, and_true, true_and, and_self] <;> omega)) ?_
  intro A w hF hH
  refine wpList_nil ?_
  refine wp_ret ?_
  repeat (first | refine then_ret ?_ | refine blk_ret ?_ | refine ng_ret ?_)
  refine ret (M := []) (hs := []) tab hF hH rfl (by first | exact trivial | (simp only [All, inK_i64, inK_u64, inK_u32, inK_u8, inK_i32, max_i64, max_u64, IntKind.bits, Int.reduceToNat, Int.reduceAdd, Nat.reducePow, Int.reducePow, and_true, true_and, and_self] <;> omega)) ?_
  exact ⟨rfl, hH.tail⟩
set_option maxRecDepth 20000 in
theorem new_calls {v : Value} {ps : List (Int × Int)} {at_ : Int} (hv : Rd κ [] 2 wenc v ps) (hp : ∀ p ∈ ps, POk p) (hlen : ps.length ≤ 8) (he : (weightF ps).2.2 = 0) (h0 : 0 ≤ at_) (h1 : at_ ≤ 1099511627776) (hH : Hp κ w C) :
    Calls Try.prog 11 #[v, .int .i64 at_] w (fun e w' => ∃ s, e = .returned (.pointer (some ⟨s, 0, none⟩)) ∧ Hp κ w' (sup s (newS at_ ps) :: C)) := by
  have hne : ps ≠ [] := fun h => by subst h; simp [weightF] at he
  have hl0 : 0 < ps.length := List.length_pos_iff.2 hne
  have hv0 := hv
  obtain ⟨A0, cap, rfl, hcap⟩ := hv.form
  refine enter (args := [.slice A0 ps.length cap, .int .i64 at_]) Try.func11 rfl rfl ?_
  intro A hF
  refine wp_seq ?_
  refine wp_region_lit ?_
  refine ev0 [0] tab hF hH rfl (by first | exact trivial | (simp only [All, inK_i64, inK_u64, inK_u32, inK_u8, inK_i32, max_i64, max_u64, IntKind.bits, Int.reduceToNat, Int.reduceAdd, Nat.reducePow, Int.reducePow, and_true, true_and, and_self] <;> omega)) ?_
  intro A w hF hH
  refine wpList_nil ?_
  refine wp_seq ?_
  refine wp_region_lit ?_
  refine ev0 [0] tab hF hH rfl (by first | exact trivial | (simp only [All, inK_i64, inK_u64, inK_u32, inK_u8, inK_i32, max_i64, max_u64, IntKind.bits, Int.reduceToNat, Int.reduceAdd, Nat.reducePow, Int.reducePow, and_true, true_and, and_self] <;> omega)) ?_
  intro A w hF hH
  refine list_act hF rfl ?_
  refine op_call hF rfl rfl rfl rfl rfl rfl isF10 (sweight_calls hv0 hp hlen hH) ?_
  rintro e w ⟨rfl, hH⟩
  refine ⟨_, rfl, fun A hF => ?_⟩
  refine ev0 [0, 0, 0] tab hF hH rfl (by first | exact trivial | (simp only [All, inK_i64, inK_u64, inK_u32, inK_u8, inK_i32, max_i64, max_u64, IntKind.bits, Int.reduceToNat, Int.reduceAdd, Nat.reducePow, Int.reducePow, and_true, true_and, and_self] <;> omega)) ?_
  intro A w hF hH
  refine list_act hF rfl ?_
  refine op_alloc hF tab rfl rfl rfl rfl rfl hH ?_
  intro b5 A w hF hH
  refine evM [⟨b5, [.int .i64 0, .int .i64 0], 28⟩] [0, 0] tab hF hH rfl (by first | exact trivial | (simp only [All, inK_i64, inK_u64, inK_u32, inK_u8, inK_i32, max_i64, max_u64, IntKind.bits, Int.reduceToNat, Int.reduceAdd, Nat.reducePow, Int.reducePow, and_true, true_and, and_self] <;> omega)) ?_
  intro A w hF hH
  refine wpList_nil ?_
  refine wp_seq ?_
  refine wp_seq ?_
  refine wp_region_lit ?_
  have hH := hH.tail
  refine ev0 [0, 2, 0, 0, 2, 0, 0, 0, 2, 0] tab hF hH rfl (by first | exact trivial | (simp only [All, inK_i64, inK_u64, inK_u32, inK_u8, inK_i32, max_i64, max_u64, IntKind.bits, Int.reduceToNat, Int.reduceAdd, Nat.reducePow, Int.reducePow, and_true, true_and, and_self] <;> omega)) ?_
  intro A w hF hH
  refine wpList_nil ?_
  refine cond_f hF rfl rfl ?_
  refine wp_skip ?_
  refine wp_seq ?_
  refine wp_region_lit ?_
  refine ev0 [0, 0] tab hF hH rfl (by first | exact trivial | (simp only [All, inK_i64, inK_u64, inK_u32, inK_u8, inK_i32, max_i64, max_u64, IntKind.bits, Int.reduceToNat, Int.reduceAdd, Nat.reducePow, Int.reducePow, and_true, true_and, and_self] <;> omega)) ?_
  intro A w hF hH
  refine list_act hF rfl ?_
  refine op_box hF rfl rfl rfl rfl rfl hH ?_
  intro s A w hF hH
  refine ev0 [0] tab hF hH rfl (by first | exact trivial | (simp only [All, inK_i64, inK_u64, inK_u32, inK_u8, inK_i32, max_i64, max_u64, IntKind.bits, Int.reduceToNat, Int.reduceAdd, Nat.reducePow, Int.reducePow, and_true, true_and, and_self] <;> omega)) ?_
  intro A w hF hH
  refine wpList_nil ?_
  refine wp_seq ?_
  refine wp_seq ?_
  refine wp_region_lit ?_
  have hH := (osl_nil 74 7 hH)
  refine ev0 [0, 0, 0] tab hF hH rfl (by first | exact trivial | (simp only [All, inK_i64, inK_u64, inK_u32, inK_u8, inK_i32, max_i64, max_u64, IntKind.bits, Int.reduceToNat, Int.reduceAdd, Nat.reducePow, Int.reducePow, and_true, true_and, and_self] <;> omega)) ?_
  intro A w hF hH
  refine wpList_nil ?_
  refine wp_block ?_
  refine loop_j (fun (i : Nat) A w => i ≤ ps.length ∧ ∃ o : SV, Fr 57 A [(30, .int .i64 i), (29, .int .i64 ps.length), (28, .slice A0 ps.length cap), (7, .pointer (some ⟨s, 0, none⟩)), (1, .int .i64 at_)] ∧ Hp κ w (osl o.v 74 7 i (((newPs at_ ps).take i).flatMap penc) :: row s [o.v, .int .i64 at_, .int .i64 0, .int .i64 0] 72 :: C)) (fun i => ps.length - i) 0 ⟨Nat.zero_le _, ⟨none, 0, 0⟩, Fr.to hF ⟨rfl, rfl, rfl, rfl, rfl, trivial⟩, hH⟩ ?_
  rintro i A w ⟨hi, o, hF, hH⟩
  refine wp_seq ?_
  refine wp_region_lit ?_
  by_cases hlt : i < ps.length
  · refine ev0 [1] tab hF hH rfl (by first | exact trivial | (simp only [All, inK_i64, inK_u64, inK_u32, inK_u8, inK_i32, max_i64, max_u64, IntKind.bits, Int.reduceToNat, Int.reduceAdd, Nat.reducePow, Int.reducePow, and_true, true_and, and_self] <;> omega)) ?_
    intro A w hF hH
    refine wpList_nil ?_
    refine wp_seq ?_
    refine cond_t hF rfl rfl ?_
    refine wp_skip ?_
    refine wp_seq ?_
    refine wp_block ?_
    refine wp_seq ?_
    refine wp_region_lit ?_
    obtain ⟨b0, off0, rfl⟩ := hv.addr (by omega)
    have hpi := hp ps[i] (List.getElem_mem hlt)
    have hts := take_succ_flat penc (newPs at_ ps) i (by simpa [newPs] using hlt)
    have hni : (newPs at_ ps)[i]'(by simpa [newPs] using hlt) = newP at_ i ps[i] := by simp [newPs]
    rw [hni] at hts
    refine evF [] [] (LFok.cons (hv.at_ (fun _ _ => rfl) i hlt) (LFok.nil _ _)) [0, 0, 1] tab hF hH rfl (by first | exact trivial | (simp only [All, inK_i64, inK_u64, inK_u32, inK_u8, inK_i32, max_i64, max_u64, IntKind.bits, Int.reduceToNat, Int.reduceAdd, Nat.reducePow, Int.reducePow, and_true, true_and, and_self] <;> omega)) ?_
    intro A w hF hH
    generalize ps[i] = p at *
    obtain ⟨E, P⟩ := p
    obtain ⟨hE1, hE2, hP3⟩ := hpi
    simp only at hE1 hE2 hP3
    refine list_act hF rfl ?_
    refine op_alloc hF tab rfl rfl rfl rfl rfl hH ?_
    intro b9 A w hF hH
    refine evM [⟨b9, [.int .i64 0, .int .i64 0], 45⟩] [0, 0] tab hF hH rfl (by first | exact trivial | (simp only [All, inK_i64, inK_u64, inK_u32, inK_u8, inK_i32, max_i64, max_u64, IntKind.bits, Int.reduceToNat, Int.reduceAdd, Nat.reducePow, Int.reducePow, and_true, true_and, and_self] <;> omega)) ?_
    intro A w hF hH
    refine wpList_nil ?_
    have hH := (hH.focus 2 rfl).focus 1 rfl
    refine dr_reads (by kernel_rfl) [] [row b9 [.int .i64 E, .int .i64 P] 45, row s [o.v, .int .i64 at_, .int .i64 0, .int .i64 0] 72] [20] [(0, 0), (1, 0), (2, 0), (3, 0), (4, 1), (5, 3), (6, 0), (7, 0), (8, 0), (9, 0), (10, 5), (11, 0), (12, 0), (13, 3), (14, 0), (15, 0)] 5 tab (LFok.cons (At.own (off := 0) (vs := [o.v]) 1 rfl (own1 rfl)) (LFok.cons (At.own (off := 0) (vs := [.int .i64 E, .int .i64 P]) 0 rfl (fun j u h => by simpa using h)) (LFok.cons (At.own (off := 1) (vs := [.int .i64 P]) 0 rfl (own1 rfl)) (LFok.nil _ _)))) (by kernel_rfl) rfl hF hH (by kernel_rfl) rfl (by first | exact trivial | (simp only [All, inK_i64, inK_u64, inK_u32, inK_u8, inK_i32, max_i64, max_u64, IntKind.bits, Int.reduceToNat, Int.reduceAdd, Nat.reducePow, Int.reducePow, and_true, true_and, and_self] <;> omega)) ?_
    intro A w hF hH
    refine dr_act (k := 16) (by kernel_rfl) rfl hF rfl ?_
    refine op_buildSlice hF tab rfl rfl rfl rfl rfl rfl rfl rfl hH ?_
    intro bs A w hF hH
    refine ⟨fun _ => Keeps.of hH.tail (K.le.refl _), ?_⟩
    have hat := row_at hH (off := 0) (vs := penc (newP at_ i (E, P))) (fun j u h => by rw [Nat.zero_add]; exact h)
    have hH := hH.tail.focus 2 rfl
    refine dr_act (k := 17) (by kernel_rfl) rfl hF rfl ?_
    refine op_append hF tab rfl rfl rfl rfl rfl rfl rfl rfl hH hat rfl rfl (by simp [maxLen]; omega) (by simp; omega) ?_
    intro o2 A w hF hH
    refine ⟨(fun _ => Keeps.of hH.tail (K.le.refl _)), ?_⟩
    obtain ⟨o2, rfl⟩ := osl_sv hH
    have hH := (hH.focus 2 rfl).focus 2 rfl
    refine dr_more [] [row b9 [.int .i64 E, .int .i64 P] 45, row s [o.v, .int .i64 at_, .int .i64 0, .int .i64 0] 72] [(18, 0), (19, 0)] 1 (K.le.refl _) tab (LFok.nil _ _) (by kernel_rfl) rfl hF hH (by kernel_rfl) rfl (by first | exact trivial | (simp only [All, inK_i64, inK_u64, inK_u32, inK_u8, inK_i32, max_i64, max_u64, IntKind.bits, Int.reduceToNat, Int.reduceAdd, Nat.reducePow, Int.reducePow, and_true, true_and, and_self] <;> omega)) ?_
    intro A hF
    have hH := hH.swap
    refine dr_act (k := 20) (by kernel_rfl) rfl hF rfl ?_
    refine op_ev (h := 0) (M := [⟨s, [o.v, .int .i64 at_, .int .i64 0, .int .i64 0], 72⟩]) hF tab hH rfl (by first | exact trivial | (simp only [All, inK_i64, inK_u64, inK_u32, inK_u8, inK_i32, max_i64, max_u64, IntKind.bits, Int.reduceToNat, Int.reduceAdd, Nat.reducePow, Int.reducePow, and_true, true_and, and_self] <;> omega)) rfl ?_
    intro A w hF hH
    refine ⟨fun h => absurd h (by decide), ?_⟩
    refine dr_done (by kernel_rfl) ?_ _
    refine wp_region_lit ?_
    refine ev0 [0, 0] tab hF hH rfl (by first | exact trivial | (simp only [All, inK_i64, inK_u64, inK_u32, inK_u8, inK_i32, max_i64, max_u64, IntKind.bits, Int.reduceToNat, Int.reduceAdd, Nat.reducePow, Int.reducePow, and_true, true_and, and_self] <;> omega)) ?_
    intro A w hF hH
    refine wpList_nil ?_
    refine ⟨i + 1, ⟨by omega, o2, Fr.to hF ⟨rfl, rfl, rfl, rfl, rfl, trivial⟩, ?_⟩, by omega⟩
    rw [← hts]
    exact (hH.focus 1 rfl).tail.swap
  · skip
    refine ev0 [2] tab hF hH rfl (by first | exact trivial | (simp only [All, inK_i64, inK_u64, inK_u32, inK_u8, inK_i32, max_i64, max_u64, IntKind.bits, Int.reduceToNat, Int.reduceAdd, Nat.reducePow, Int.reducePow, and_true, true_and, and_self] <;> omega)) ?_
    intro A w hF hH
    refine wpList_nil ?_
    refine wp_seq ?_
    refine cond_f hF rfl rfl ?_
    refine wp_exit ?_
    repeat (first | refine then_exit ?_ | refine ng_exit ?_ | refine blk_exit ?_ | refine blk_exit_ne rfl ?_)
    refine wp_seq ?_
    refine wp_region_lit ?_
    have e : i = ps.length := by omega
    subst e
    rw [show ps.length = (newPs at_ ps).length from by simp [newPs], List.take_length] at hH
    refine ev0 [0, 0] tab hF hH rfl (by first | exact trivial | (simp only [All, inK_i64, inK_u64, inK_u32, inK_u8, inK_i32, max_i64, max_u64, IntKind.bits, Int.reduceToNat, Int.reduceAdd, Nat.reducePow, Int.reducePow, and_true, true_and, and_self] <;> omega)) ?_
    intro A w hF hH
    refine wpList_nil ?_
    refine wp_ret ?_
    repeat (first | refine then_ret ?_ | refine blk_ret ?_ | refine ng_ret ?_)
    refine ret (M := []) (hs := []) tab hF hH rfl (by first | exact trivial | (simp only [All, inK_i64, inK_u64, inK_u32, inK_u8, inK_i32, max_i64, max_u64, IntKind.bits, Int.reduceToNat, Int.reduceAdd, Nat.reducePow, Int.reducePow, and_true, true_and, and_self] <;> omega)) ?_
    rcases osl_cases hH with ⟨_, h2, _⟩ | ⟨b, cap2, cur, ho, h3, _, h5, h6, hH⟩
    · exact absurd h2 (by simpa [newPs] using hne)
    · refine ⟨s, rfl, sup_close (S := newS at_ ps) (b := b) (cap := cap2) (junk := cur.drop ((newPs at_ ps).length * 7)) (n := 0) rfl rfl rfl rfl h3 ?_⟩
      have e : (newS at_ ps).ps.flatMap penc ++ cur.drop ((newPs at_ ps).length * 7) = cur := by
        show (newPs at_ ps).flatMap penc ++ _ = cur
        rw [← h6]; exact List.take_append_drop _ _
      rw [e]
      have ho' : o.v = .slice (some ⟨b, 0, none⟩) (newPs at_ ps).length cap2 := ho
      rw [ho'] at hH
      exact hH.swap
end
end Go.Proofs.Try
