/- Contracts of the supertask's functions: weights, what they use, the least period. -/
import Derived.Test.YtfapcagleghlaaaRa
set_option linter.all false
namespace Go.Proofs.Try
open Go Go.Sep

theorem take_succ_flat {α : Type} (enc : α → List Value) (xs : List α) (i : Nat) (h : i < xs.length) : (xs.take i).flatMap enc ++ enc xs[i] = (xs.take (i + 1)).flatMap enc := by
  rw [List.take_add_one, List.getElem?_eq_getElem h]
  simp only [Option.toList, List.flatMap_append, List.flatMap_cons, List.flatMap_nil, List.append_nil]
section
variable {κ : K} {w : World} {C : List HP}
set_option maxRecDepth 20000 in
theorem weights_calls {v : Value} {ps : List (Int × Int)} (hv : Rd κ [] 2 wenc v ps) (hlen : ps.length ≤ 8) (hH : Hp κ w C) :
    Calls Try.prog 58 #[v] w (fun e w' => ∃ κ' v', κ.le κ' ∧ e = .returned v' ∧ Rd κ' [] 2 wenc v' ps ∧ Hp κ' w' C) := by
  obtain ⟨A0, cap, rfl, hcap⟩ := hv.form
  refine enter (args := [.slice A0 ps.length cap]) Try.func58 rfl rfl ?_
  intro A hF
  refine wp_seq ?_
  refine wp_region_lit ?_
  refine ev0 [0] tab hF hH rfl (by first | exact trivial | (simp only [All, inK_i64, inK_u64, inK_u32, inK_u8, inK_i32, max_i64, max_u64, IntKind.bits, Int.reduceToNat, Int.reduceAdd, Nat.reducePow, Int.reducePow, and_true, true_and, and_self] <;> omega)) ?_
  intro A w hF hH
  refine wpList_nil ?_
  refine wp_seq ?_
  refine wp_region_lit ?_
  refine ev0 [0] tab hF hH rfl (by first | exact trivial | (simp only [All, inK_i64, inK_u64, inK_u32, inK_u8, inK_i32, max_i64, max_u64, IntKind.bits, Int.reduceToNat, Int.reduceAdd, Nat.reducePow, Int.reducePow, and_true, true_and, and_self] <;> omega)) ?_
  intro A w hF hH
  refine wpList_nil ?_
  refine wp_seq ?_
  refine wp_seq ?_
  refine wp_region_lit ?_
  refine ev0 [0, 0, 0] tab hF hH rfl (by first | exact trivial | (simp only [All, inK_i64, inK_u64, inK_u32, inK_u8, inK_i32, max_i64, max_u64, IntKind.bits, Int.reduceToNat, Int.reduceAdd, Nat.reducePow, Int.reducePow, and_true, true_and, and_self] <;> omega)) ?_
  intro A w hF hH
  refine wpList_nil ?_
  refine wp_block ?_
  have hH := osl_nil 28 2 hH
  refine loop_j (fun (i : Nat) A w => i ≤ ps.length ∧ ∃ o, Fr 19 A [(8, .int .i64 i), (7, .int .i64 ps.length), (6, .slice A0 ps.length cap), (3, o)] ∧ Hp κ w (osl o 28 2 i ((ps.take i).flatMap wenc) :: C)) (fun i => ps.length - i) 0 ⟨Nat.zero_le _, _, Fr.to hF ⟨rfl, rfl, rfl, rfl, trivial⟩, hH⟩ ?_
  rintro i A w ⟨hi, o, hF, hH⟩
  refine wp_seq ?_
  refine wp_region_lit ?_
  by_cases hlt : i < ps.length
  · refine ev0 [1] tab hF hH rfl (by first | exact trivial | (simp only [All, inK_i64, inK_u64, inK_u32, inK_u8, inK_i32, max_i64, max_u64, IntKind.bits, Int.reduceToNat, Int.reduceAdd, Nat.reducePow, Int.reducePow, and_true, true_and, and_self] <;> omega)) ?_
    intro A w hF hH
    refine wpList_nil ?_
    refine wp_seq ?_
    refine cond_t hF rfl rfl ?_
    refine wp_skip ?_
    refine wp_seq ?_
    refine wp_block ?_
    refine wp_seq ?_
    refine wp_region_lit ?_
    obtain ⟨b0, off0, rfl⟩ := hv.addr (by omega)
    have hts := take_succ_flat wenc ps i hlt
    refine evF [] [] (LFok.cons (hv.at_ (fun _ _ => rfl) i hlt) (LFok.nil _ _)) [0, 1] tab hF hH rfl (by first | exact trivial | (simp only [All, inK_i64, inK_u64, inK_u32, inK_u8, inK_i32, max_i64, max_u64, IntKind.bits, Int.reduceToNat, Int.reduceAdd, Nat.reducePow, Int.reducePow, and_true, true_and, and_self] <;> omega)) ?_
    intro A w hF hH
    generalize ps[i] = p at *
    obtain ⟨E, P⟩ := p
    refine list_act hF rfl ?_
    refine op_alloc hF tab rfl rfl rfl rfl rfl hH ?_
    intro b5 A w hF hH
    refine evM [⟨b5, [.int .i64 0, .int .i64 0], 45⟩] [0] tab hF hH rfl (by first | exact trivial | (simp only [All, inK_i64, inK_u64, inK_u32, inK_u8, inK_i32, max_i64, max_u64, IntKind.bits, Int.reduceToNat, Int.reduceAdd, Nat.reducePow, Int.reducePow, and_true, true_and, and_self] <;> omega)) ?_
    intro A w hF hH
    refine wpList_nil ?_
    refine wp_region_lit ?_
    refine evM [⟨b5, [.int .i64 E, .int .i64 P], 45⟩] [0, 0] tab hF hH rfl (by first | exact trivial | (simp only [All, inK_i64, inK_u64, inK_u32, inK_u8, inK_i32, max_i64, max_u64, IntKind.bits, Int.reduceToNat, Int.reduceAdd, Nat.reducePow, Int.reducePow, and_true, true_and, and_self] <;> omega)) ?_
    intro A w hF hH
    have hH := hH.tail
    refine list_act hF rfl ?_
    refine op_call hF rfl rfl rfl rfl rfl rfl isF52 (weight_calls E P hH) ?_
    rintro e w ⟨rfl, hH⟩
    refine ⟨_, rfl, fun A hF => ?_⟩
    refine list_act hF rfl ?_
    refine op_buildSlice hF tab rfl rfl rfl rfl rfl rfl rfl rfl hH ?_
    intro bs A w hF hH
    have hat := row_at hH (off := 0) (vs := [.int .i64 E, .int .i64 P]) (fun j u h => by simpa using h)
    have hH := hH.tail
    refine list_act hF rfl ?_
    refine op_append hF tab rfl rfl rfl rfl rfl rfl rfl rfl hH hat rfl rfl (by simp [maxLen]; omega) (by simp; omega) ?_
    intro v A w hF hH
    refine ev0 [0] tab hF hH rfl (by first | exact trivial | (simp only [All, inK_i64, inK_u64, inK_u32, inK_u8, inK_i32, max_i64, max_u64, IntKind.bits, Int.reduceToNat, Int.reduceAdd, Nat.reducePow, Int.reducePow, and_true, true_and, and_self] <;> omega)) ?_
    intro A w hF hH
    refine wpList_nil ?_
    refine wp_region_lit ?_
    refine ev0 [0, 0] tab hF hH rfl (by first | exact trivial | (simp only [All, inK_i64, inK_u64, inK_u32, inK_u8, inK_i32, max_i64, max_u64, IntKind.bits, Int.reduceToNat, Int.reduceAdd, Nat.reducePow, Int.reducePow, and_true, true_and, and_self] <;> omega)) ?_
    intro A w hF hH
    refine wpList_nil ?_
    refine ⟨i + 1, ⟨by omega, v, Fr.to hF ⟨rfl, rfl, rfl, rfl, trivial⟩, ?_⟩, by omega⟩
    rw [← hts]; exact hH
  · skip
    refine ev0 [2] tab hF hH rfl (by first | exact trivial | (simp only [All, inK_i64, inK_u64, inK_u32, inK_u8, inK_i32, max_i64, max_u64, IntKind.bits, Int.reduceToNat, Int.reduceAdd, Nat.reducePow, Int.reducePow, and_true, true_and, and_self] <;> omega)) ?_
    intro A w hF hH
    refine wpList_nil ?_
    refine wp_seq ?_
    refine cond_f hF rfl rfl ?_
    refine wp_exit ?_
    repeat (first | refine then_exit ?_ | refine ng_exit ?_ | refine blk_exit ?_ | refine blk_exit_ne rfl ?_)
    refine wp_seq ?_
    refine wp_region_lit ?_
    have e : i = ps.length := by omega
    subst e
    rw [List.take_length] at hH
    obtain ⟨κ', l, hH, hr⟩ := osl_freeze (enc := wenc) (fun _ _ => rfl) hH
    refine ev0 [0, 0] tab hF hH rfl (by first | exact trivial | (simp only [All, inK_i64, inK_u64, inK_u32, inK_u8, inK_i32, max_i64, max_u64, IntKind.bits, Int.reduceToNat, Int.reduceAdd, Nat.reducePow, Int.reducePow, and_true, true_and, and_self] <;> omega)) ?_
    intro A w hF hH
    refine wpList_nil ?_
    refine wp_ret ?_
    repeat (first | refine then_ret ?_ | refine blk_ret ?_ | refine ng_ret ?_)
    refine ret (M := []) (hs := []) tab hF hH rfl (by first | exact trivial | (simp only [All, inK_i64, inK_u64, inK_u32, inK_u8, inK_i32, max_i64, max_u64, IntKind.bits, Int.reduceToNat, Int.reduceAdd, Nat.reducePow, Int.reducePow, and_true, true_and, and_self] <;> omega)) ?_
    exact ⟨κ', o, l, rfl, hr [], hH⟩
set_option maxRecDepth 20000 in
theorem use_calls {v : Value} {ps : List (Int × Int)} (hv : Rd κ [] 2 wenc v ps) (hp : ∀ p ∈ ps, POk p) (hlen : ps.length ≤ 8) (h0 : 0 < ps.length) (hH : Hp κ w C) :
    Calls Try.prog 28 #[v] w (RatRes κ C (sumW (0, 1) ps).1 (sumW (0, 1) ps).2) := by
  have hne : decide (ps ≠ []) = true := by simpa using List.length_pos_iff.1 h0
  refine enter (args := [v]) Try.func28 rfl rfl ?_
  intro A hF
  refine wp_seq ?_
  refine wp_region_lit ?_
  refine list_act hF rfl ?_
  refine op_alloc hF tab rfl rfl rfl rfl rfl hH ?_
  intro b A w hF hH
  refine wpList_nil ?_
  refine wp_seq ?_
  refine wp_seq ?_
  refine wp_region_lit ?_
  refine ev0 [0] tab hF hH rfl (by first | exact trivial | (simp only [All, inK_i64, inK_u64, inK_u32, inK_u8, inK_i32, max_i64, max_u64, IntKind.bits, Int.reduceToNat, Int.reduceAdd, Nat.reducePow, Int.reducePow, and_true, true_and, and_self] <;> omega)) ?_
  intro A w hF hH
  refine list_act hF rfl ?_
  refine op_call hF rfl rfl rfl rfl rfl rfl isF25 (check_calls hv hp hlen hH) ?_
  rintro e w ⟨rfl, hH⟩
  refine ⟨_, rfl, fun A hF => ?_⟩
  rw [hne] at hF
  refine ev0 [0] tab hF hH rfl (by first | exact trivial | (simp only [All, inK_i64, inK_u64, inK_u32, inK_u8, inK_i32, max_i64, max_u64, IntKind.bits, Int.reduceToNat, Int.reduceAdd, Nat.reducePow, Int.reducePow, and_true, true_and, and_self] <;> omega)) ?_
  intro A w hF hH
  refine wpList_nil ?_
  refine cond_f hF rfl rfl ?_
  refine wp_skip ?_
  refine wp_seq ?_
  refine wp_region_lit ?_
  refine ev0 [0] tab hF hH rfl (by first | exact trivial | (simp only [All, inK_i64, inK_u64, inK_u32, inK_u8, inK_i32, max_i64, max_u64, IntKind.bits, Int.reduceToNat, Int.reduceAdd, Nat.reducePow, Int.reducePow, and_true, true_and, and_self] <;> omega)) ?_
  intro A w hF hH
  refine list_act hF rfl ?_
  refine op_call hF rfl rfl rfl rfl rfl rfl isF58 (weights_calls hv hlen hH) ?_
  rintro e w ⟨κ1, v1, l1, rfl, hv1, hH⟩
  refine ⟨_, rfl, fun A hF => ?_⟩
  refine list_act hF rfl ?_
  refine op_call hF rfl rfl rfl rfl rfl rfl isF57 (sum_calls hv1 (fun p h => (hp p h).w) hlen hH) ?_
  rintro e w ⟨κ2, x, y, l2, rfl, hxy, hH⟩
  refine ⟨_, rfl, fun A hF => ?_⟩
  refine evM [⟨b, [.slice none 0 0, .slice none 0 0], 65⟩] [0] tab hF hH rfl (by first | exact trivial | (simp only [All, inK_i64, inK_u64, inK_u32, inK_u8, inK_i32, max_i64, max_u64, IntKind.bits, Int.reduceToNat, Int.reduceAdd, Nat.reducePow, Int.reducePow, and_true, true_and, and_self] <;> omega)) ?_
  intro A w hF hH
  refine wpList_nil ?_
  refine wp_ret ?_
  repeat (first | refine then_ret ?_ | refine blk_ret ?_ | refine ng_ret ?_)
  refine ret (M := [⟨b, [x.v, y.v], 65⟩]) (hs := [0]) tab hF hH rfl (by first | exact trivial | (simp only [All, inK_i64, inK_u64, inK_u32, inK_u8, inK_i32, max_i64, max_u64, IntKind.bits, Int.reduceToNat, Int.reduceAdd, Nat.reducePow, Int.reducePow, and_true, true_and, and_self] <;> omega)) ?_
  exact ⟨κ2, x, y, l1.trans l2, rfl, hxy, hH.tail⟩
end
def minF : Int → List Int → Int
  | m, [] => m
  | m, n :: ns => minF (min m n) ns
set_option maxRecDepth 20000 in
theorem min_calls (κ : K) (v : Value) (n0 : Int) (ns : List Int) (hv : Rd κ [] 1 e64 v (n0 :: ns)) (hl : ns.length ≤ 1000000) (w : World) (C : List HP) (hH : Hp κ w C) :
    Calls Try.prog 30 #[v] w (fun e w' => e = .returned (.int .i64 (minF n0 ns)) ∧ Hp κ w' C) := by
  obtain ⟨A0, cap, rfl, hcap⟩ := hv.form
  obtain ⟨b0, off0, rfl⟩ := hv.addr (by simp)
  obtain ⟨m, hm⟩ : ∃ m, m = (n0 :: ns).length := ⟨_, rfl⟩
  have hm' : m = ns.length + 1 := by simpa using hm
  refine enter (args := [.slice (some ⟨b0, off0, none⟩) (n0 :: ns).length cap]) Try.func30 rfl rfl ?_
  intro A hF
  refine wp_seq ?_
  refine wp_region_lit ?_
  rw [← hm] at hF hcap
  refine ev0 [0] tab hF hH rfl (by first | exact trivial | (simp only [All, inK_i64, inK_u64, inK_u32, inK_u8, inK_i32, max_i64, max_u64, IntKind.bits, Int.reduceToNat, Int.reduceAdd, Nat.reducePow, Int.reducePow, and_true, true_and, and_self] <;> omega)) ?_
  intro A w hF hH
  refine wpList_nil ?_
  refine wp_seq ?_
  refine wp_seq ?_
  refine wp_region_lit ?_
  refine ev0 [0, 0, 2] tab hF hH rfl (by first | exact trivial | (simp only [All, inK_i64, inK_u64, inK_u32, inK_u8, inK_i32, max_i64, max_u64, IntKind.bits, Int.reduceToNat, Int.reduceAdd, Nat.reducePow, Int.reducePow, and_true, true_and, and_self] <;> omega)) ?_
  intro A w hF hH
  refine wpList_nil ?_
  refine cond_f hF rfl rfl ?_
  refine wp_skip ?_
  refine wp_seq ?_
  refine wp_region_lit ?_
  refine evF [] [] (LFok.cons (hv.at_ (fun _ _ => rfl) 0 (by simp)) (LFok.nil _ _)) [0, 0, 1, 0] tab hF hH rfl (by first | exact trivial | (simp only [All, inK_i64, inK_u64, inK_u32, inK_u8, inK_i32, max_i64, max_u64, IntKind.bits, Int.reduceToNat, Int.reduceAdd, Nat.reducePow, Int.reducePow, and_true, true_and, and_self] <;> omega)) ?_
  intro A w hF hH
  refine wpList_nil ?_
  refine wp_seq ?_
  refine wp_seq ?_
  refine wp_region_lit ?_
  refine ev0 [0] tab hF hH rfl (by first | exact trivial | (simp only [All, inK_i64, inK_u64, inK_u32, inK_u8, inK_i32, max_i64, max_u64, IntKind.bits, Int.reduceToNat, Int.reduceAdd, Nat.reducePow, Int.reducePow, and_true, true_and, and_self] <;> omega)) ?_
  intro A w hF hH
  refine wpList_nil ?_
  refine wp_block ?_
  refine loop_j (fun (i : Nat) A w => 1 ≤ i ∧ i ≤ m ∧ ∃ q, minF q (ns.drop (i - 1)) = minF n0 ns ∧ Fr 25 A [(4, .int .i64 i), (3, .int .i64 q), (0, .slice (some ⟨b0, off0, none⟩) m cap)] ∧ Hp κ w C) (fun i => m - i) 1 ⟨by omega, by omega, n0, rfl, Fr.to hF ⟨rfl, rfl, rfl, trivial⟩, hH⟩ ?_
  rintro i A w ⟨hi0, hi, q, hq, hF, hH⟩
  refine wp_seq ?_
  refine wp_seq ?_
  refine wp_region_lit ?_
  by_cases hlt : i < m
  · refine ev0 [0, 0, 0, 1] tab hF hH rfl (by first | exact trivial | (simp only [All, inK_i64, inK_u64, inK_u32, inK_u8, inK_i32, max_i64, max_u64, IntKind.bits, Int.reduceToNat, Int.reduceAdd, Nat.reducePow, Int.reducePow, and_true, true_and, and_self] <;> omega)) ?_
    intro A w hF hH
    refine wpList_nil ?_
    refine cond_t hF rfl rfl ?_
    refine wp_skip ?_
    refine wp_seq ?_
    refine wp_block ?_
    refine wp_region_lit ?_
    have hlt' : i < (n0 :: ns).length := by rw [← hm]; exact hlt
    have he : (n0 :: ns)[i] = ns[i - 1]'(by omega) := by
      obtain ⟨j, rfl⟩ : ∃ j, i = j + 1 := ⟨i - 1, by omega⟩
      simp
    rw [List.drop_eq_getElem_cons (by omega : i - 1 < ns.length), ← he] at hq
    have hat := hv.at_ (fun _ _ => rfl) i hlt'
    generalize (n0 :: ns)[i] = z at *
    refine evF [] [] (LFok.cons hat (LFok.nil _ _)) [0, 0, 0, 0, 1, 0, 0] tab hF hH rfl (by first | exact trivial | (simp only [All, inK_i64, inK_u64, inK_u32, inK_u8, inK_i32, max_i64, max_u64, IntKind.bits, Int.reduceToNat, Int.reduceAdd, Nat.reducePow, Int.reducePow, and_true, true_and, and_self] <;> omega)) ?_
    intro A w hF hH
    refine wpList_nil ?_
    refine wp_region_lit ?_
    refine ev0 [0, 0, 0] tab hF hH rfl (by first | exact trivial | (simp only [All, inK_i64, inK_u64, inK_u32, inK_u8, inK_i32, max_i64, max_u64, IntKind.bits, Int.reduceToNat, Int.reduceAdd, Nat.reducePow, Int.reducePow, and_true, true_and, and_self] <;> omega)) ?_
    intro A w hF hH
    refine wpList_nil ?_
    refine ⟨i + 1, ⟨by omega, by omega, min q z, ?_, Fr.to hF ⟨rfl, rfl, rfl, trivial⟩, hH⟩, by omega⟩
    rw [← hq, show i + 1 - 1 = i - 1 + 1 from by omega]; rfl
  · skip
    refine ev0 [0, 0, 0, 2] tab hF hH rfl (by first | exact trivial | (simp only [All, inK_i64, inK_u64, inK_u32, inK_u8, inK_i32, max_i64, max_u64, IntKind.bits, Int.reduceToNat, Int.reduceAdd, Nat.reducePow, Int.reducePow, and_true, true_and, and_self] <;> omega)) ?_
    intro A w hF hH
    refine wpList_nil ?_
    refine cond_f hF rfl rfl ?_
    refine wp_exit ?_
    repeat (first | refine then_exit ?_ | refine ng_exit ?_ | refine blk_exit ?_ | refine blk_exit_ne rfl ?_)
    refine wp_seq ?_
    refine wp_region_lit ?_
    rw [List.drop_eq_nil_of_le (by omega)] at hq
    simp only [minF] at hq
    subst hq
    refine ev0 [0, 0] tab hF hH rfl (by first | exact trivial | (simp only [All, inK_i64, inK_u64, inK_u32, inK_u8, inK_i32, max_i64, max_u64, IntKind.bits, Int.reduceToNat, Int.reduceAdd, Nat.reducePow, Int.reducePow, and_true, true_and, and_self] <;> omega)) ?_
    intro A w hF hH
    refine wpList_nil ?_
    refine wp_ret ?_
    repeat (first | refine then_ret ?_ | refine blk_ret ?_ | refine ng_ret ?_)
    refine ret (M := []) (hs := []) tab hF hH rfl (by first | exact trivial | (simp only [All, inK_i64, inK_u64, inK_u32, inK_u8, inK_i32, max_i64, max_u64, IntKind.bits, Int.reduceToNat, Int.reduceAdd, Nat.reducePow, Int.reducePow, and_true, true_and, and_self] <;> omega)) ?_
    exact ⟨rfl, hH⟩
end Go.Proofs.Try
