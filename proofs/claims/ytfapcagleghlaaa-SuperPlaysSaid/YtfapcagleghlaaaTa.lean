/- Contracts of the laws' functions: the chapter's example, parts by numbers. -/
import Derived.Test.YtfapcagleghlaaaSepI
import Derived.Test.YtfapcagleghlaaaSd
set_option linter.all false
namespace Go.Proofs.Try
open Go Go.Sep

theorem tmod_mod (a : Int) {p : Int} (hp : 0 < p) : (a.tmod p + p) % p = a % p ∧ -p < a.tmod p ∧ a.tmod p < p := by
  refine ⟨?_, ?_, Int.tmod_lt_of_pos a hp⟩
  · rw [Int.add_emod_right, Int.tmod_def, Int.sub_mul_emod_self_left]
  · have := Int.lt_tmod_of_pos a hp
    omega
def mk (q : Int × Int) : Int × Int := (1 + q.1 % (1 + q.2 % 24), 1 + q.2 % 24)
def madeF (l : List (Int × Int)) : List (Int × Int) := (l.take 8).map mk
theorem mk_ok (q : Int × Int) : POk (mk q) := by
  obtain ⟨a, b⟩ := q
  have h1 := Int.emod_nonneg b (b := 24) (by omega)
  have h2 := Int.emod_lt_of_pos b (b := 24) (by omega)
  have h3 := Int.emod_nonneg a (b := 1 + b % 24) (by omega)
  have h4 := Int.emod_lt_of_pos a (b := 1 + b % 24) (by omega)
  refine ⟨?_, ?_, ?_⟩ <;> simp only [mk] <;> omega
theorem madeF_ok (l : List (Int × Int)) : (∀ p ∈ madeF l, POk p) ∧ (madeF l).length ≤ 8 := by
  refine ⟨fun p h => ?_, by simp [madeF]; omega⟩
  obtain ⟨q, _, rfl⟩ := List.mem_map.1 h
  exact mk_ok q
section
variable {κ : K} {w : World} {C : List HP}
set_option maxRecDepth 20000 in
theorem awake_calls (hH : Hp κ w C) : Calls Try.prog 8 #[] w (fun e w' => e = .returned (.bool true) ∧ Hp κ w' C) := by
  refine enter (args := []) Try.func8 rfl rfl ?_
  intro A hF
  refine wp_seq ?_
  refine wp_region_lit ?_
  refine ev0 [0] tab hF hH rfl (by first | exact trivial | (simp only [All, inK_i64, inK_u64, inK_u32, inK_u8, inK_i32, max_i64, max_u64, IntKind.bits, Int.reduceToNat, Int.reduceAdd, Nat.reducePow, Int.reducePow, and_true, true_and, and_self] <;> omega)) ?_
  intro A w hF hH
  refine wpList_nil ?_
  refine wp_seq ?_
  refine wp_region_lit ?_
  refine ev0 [0, 0] tab hF hH rfl (by first | exact trivial | (simp only [All, inK_i64, inK_u64, inK_u32, inK_u8, inK_i32, max_i64, max_u64, IntKind.bits, Int.reduceToNat, Int.reduceAdd, Nat.reducePow, Int.reducePow, and_true, true_and, and_self] <;> omega)) ?_
  intro A w hF hH
  refine list_act hF rfl ?_
  refine op_buildSlice hF tab rfl rfl rfl rfl rfl rfl rfl rfl hH ?_
  intro bs A w hF hH
  obtain ⟨κ1, l1, hH, hro⟩ := row_freeze hH
  have hv : Rd κ1 [] 2 wenc (.slice (some ⟨bs, 0, none⟩) 2 2) [(1, 4), (1, 6)] := hro.rd rfl (Nat.le_refl _) (fun j u hu => by rw [Nat.zero_add]; exact hu)
  refine list_act hF rfl ?_
  refine op_call hF rfl rfl rfl rfl rfl rfl isF10 (sweight_calls hv (by intro p h; simp at h; rcases h with rfl | rfl <;> (refine ⟨?_, ?_, ?_⟩ <;> decide)) (by decide) hH) ?_
  rintro e w ⟨rfl, hH⟩
  refine ⟨_, rfl, fun A hF => ?_⟩
  rw [show weightF [(1, 4), (1, 6)] = (8, 12, 0) from by decide] at hF
  refine ev0 [0, 0, 0] tab hF hH rfl (by first | exact trivial | (simp only [All, inK_i64, inK_u64, inK_u32, inK_u8, inK_i32, max_i64, max_u64, IntKind.bits, Int.reduceToNat, Int.reduceAdd, Nat.reducePow, Int.reducePow, and_true, true_and, and_self] <;> omega)) ?_
  intro A w hF hH
  refine list_act hF rfl ?_
  refine op_alloc hF tab rfl rfl rfl rfl rfl hH ?_
  intro b1 A w hF hH
  refine evM [⟨b1, [.int .i64 0, .int .i64 0], 28⟩] [0, 0] tab hF hH rfl (by first | exact trivial | (simp only [All, inK_i64, inK_u64, inK_u32, inK_u8, inK_i32, max_i64, max_u64, IntKind.bits, Int.reduceToNat, Int.reduceAdd, Nat.reducePow, Int.reducePow, and_true, true_and, and_self] <;> omega)) ?_
  intro A w hF hH
  refine wpList_nil ?_
  refine wp_seq ?_
  refine wp_region_lit ?_
  refine ev0 [0] tab hF hH rfl (by first | exact trivial | (simp only [All, inK_i64, inK_u64, inK_u32, inK_u8, inK_i32, max_i64, max_u64, IntKind.bits, Int.reduceToNat, Int.reduceAdd, Nat.reducePow, Int.reducePow, and_true, true_and, and_self] <;> omega)) ?_
  intro A w hF hH
  refine list_act hF rfl ?_
  refine op_alloc hF tab rfl rfl rfl rfl rfl hH ?_
  intro b3 A w hF hH
  refine evM [⟨b3, [.int .i64 0, .int .i64 0], 28⟩] [0] tab hF hH rfl (by first | exact trivial | (simp only [All, inK_i64, inK_u64, inK_u32, inK_u8, inK_i32, max_i64, max_u64, IntKind.bits, Int.reduceToNat, Int.reduceAdd, Nat.reducePow, Int.reducePow, and_true, true_and, and_self] <;> omega)) ?_
  intro A w hF hH
  refine wpList_nil ?_
  refine wp_seq ?_
  refine wp_region_lit ?_
  refine evM [⟨b3, [.int .i64 8, .int .i64 12], 28⟩, ⟨b1, [.int .i64 8, .int .i64 12], 28⟩] [0, 1, 0, 2, 0] tab hF hH rfl (by first | exact trivial | (simp only [All, inK_i64, inK_u64, inK_u32, inK_u8, inK_i32, max_i64, max_u64, IntKind.bits, Int.reduceToNat, Int.reduceAdd, Nat.reducePow, Int.reducePow, and_true, true_and, and_self] <;> omega)) ?_
  intro A w hF hH
  refine list_act hF rfl ?_
  refine op_eqS [.i64, .i64] hF rfl rfl rfl rfl rfl (by kernel_rfl) rfl rfl ?_
  intro r A hr hF
  have hr := hr.2 rfl
  subst hr
  refine ev0 [0, 0, 0] tab hF hH rfl (by first | exact trivial | (simp only [All, inK_i64, inK_u64, inK_u32, inK_u8, inK_i32, max_i64, max_u64, IntKind.bits, Int.reduceToNat, Int.reduceAdd, Nat.reducePow, Int.reducePow, and_true, true_and, and_self] <;> omega)) ?_
  intro A w hF hH
  refine list_act hF rfl ?_
  refine op_buildSlice hF tab rfl rfl rfl rfl rfl rfl rfl rfl hH ?_
  intro bs2 A w hF hH
  obtain ⟨κ2, l2, hH, hro⟩ := row_freeze hH
  have hv2 : Rd κ2 [] 2 wenc (.slice (some ⟨bs2, 0, none⟩) 1 1) [(1, 1)] := hro.rd rfl (Nat.le_refl _) (fun j u hu => by rw [Nat.zero_add]; exact hu)
  refine list_act hF rfl ?_
  refine op_call hF rfl rfl rfl rfl rfl rfl isF25 (check_calls hv2 (by intro p h; simp at h; subst h; refine ⟨?_, ?_, ?_⟩ <;> decide) (by decide) hH) ?_
  rintro e w ⟨rfl, hH⟩
  refine ⟨_, rfl, fun A hF => ?_⟩
  rw [show decide ([((1 : Int), (1 : Int))] ≠ []) = true from by decide] at hF
  refine ev0 [0, 0] tab hF hH rfl (by first | exact trivial | (simp only [All, inK_i64, inK_u64, inK_u32, inK_u8, inK_i32, max_i64, max_u64, IntKind.bits, Int.reduceToNat, Int.reduceAdd, Nat.reducePow, Int.reducePow, and_true, true_and, and_self] <;> omega)) ?_
  intro A w hF hH
  refine wpList_nil ?_
  refine wp_ret ?_
  repeat (first | refine then_ret ?_ | refine blk_ret ?_ | refine ng_ret ?_)
  refine ret (M := []) (hs := []) tab hF hH rfl (by first | exact trivial | (simp only [All, inK_i64, inK_u64, inK_u32, inK_u8, inK_i32, max_i64, max_u64, IntKind.bits, Int.reduceToNat, Int.reduceAdd, Nat.reducePow, Int.reducePow, and_true, true_and, and_self] <;> omega)) ?_
  exact ⟨rfl, ((hH.lower l2).lower l1).tail.tail⟩
set_option maxRecDepth 20000 in
theorem made_calls {v : Value} {l : List (Int × Int)} (hv : Rd κ [] 2 wenc v l) (hlen : l.length ≤ 9223372036854775807) (hr : ∀ p ∈ l, (-9223372036854775808 ≤ p.1 ∧ p.1 ≤ 9223372036854775807) ∧ (-9223372036854775808 ≤ p.2 ∧ p.2 ≤ 9223372036854775807)) (hH : Hp κ w C) :
    Calls Try.prog 9 #[v] w (fun e w' => ∃ κ' v', κ.le κ' ∧ e = .returned v' ∧ Rd κ' [] 2 wenc v' (madeF l) ∧ Hp κ' w' C) := by
  obtain ⟨A0, cap, rfl, hcap⟩ := hv.form
  refine enter (args := [.slice A0 l.length cap]) Try.func9 rfl rfl ?_
  intro A hF
  refine wp_seq ?_
  refine wp_region_lit ?_
  refine ev0 [0] tab hF hH rfl (by first | exact trivial | (simp only [All, inK_i64, inK_u64, inK_u32, inK_u8, inK_i32, max_i64, max_u64, IntKind.bits, Int.reduceToNat, Int.reduceAdd, Nat.reducePow, Int.reducePow, and_true, true_and, and_self] <;> omega)) ?_
  intro A w hF hH
  refine wpList_nil ?_
  refine wp_seq ?_
  refine wp_region_lit ?_
  refine ev0 [0] tab hF hH rfl (by first | exact trivial | (simp only [All, inK_i64, inK_u64, inK_u32, inK_u8, inK_i32, max_i64, max_u64, IntKind.bits, Int.reduceToNat, Int.reduceAdd, Nat.reducePow, Int.reducePow, and_true, true_and, and_self] <;> omega)) ?_
  intro A w hF hH
  refine wpList_nil ?_
  refine wp_seq ?_
  refine wp_seq ?_
  refine wp_region_lit ?_
  refine ev0 [0] tab hF hH rfl (by first | exact trivial | (simp only [All, inK_i64, inK_u64, inK_u32, inK_u8, inK_i32, max_i64, max_u64, IntKind.bits, Int.reduceToNat, Int.reduceAdd, Nat.reducePow, Int.reducePow, and_true, true_and, and_self] <;> omega)) ?_
  intro A w hF hH
  refine wpList_nil ?_
  refine wp_block ?_
  have hH := osl_nil 45 2 hH
  have hml : (madeF l).length = min 8 l.length := by simp [madeF]
  refine loop_j (fun (i : Nat) A w => i ≤ (madeF l).length ∧ ∃ o, Fr 43 A [(4, .int .i64 i), (0, .slice A0 l.length cap), (3, o)] ∧ Hp κ w (osl o 45 2 i (((madeF l).take i).flatMap wenc) :: C)) (fun i => (madeF l).length - i) 0 ⟨Nat.zero_le _, _, Fr.to hF ⟨rfl, rfl, rfl, trivial⟩, hH⟩ ?_
  rintro i A w ⟨hi, o, hF, hH⟩
  refine wp_seq ?_
  refine wp_seq ?_
  refine wp_region_lit ?_
  by_cases hlt : i < (madeF l).length
  · refine ev0 [0, 0, 0, 1, 0, 0, 1, 0] tab hF hH rfl (by first | exact trivial | (simp only [All, inK_i64, inK_u64, inK_u32, inK_u8, inK_i32, max_i64, max_u64, IntKind.bits, Int.reduceToNat, Int.reduceAdd, Nat.reducePow, Int.reducePow, and_true, true_and, and_self] <;> omega)) ?_
    intro A w hF hH
    refine wpList_nil ?_
    refine cond_t hF rfl rfl ?_
    refine wp_skip ?_
    refine wp_seq ?_
    refine wp_block ?_
    refine wp_seq ?_
    refine wp_region_lit ?_
    have hll : i < l.length := by omega
    obtain ⟨b0, off0, rfl⟩ := hv.addr (by omega)
    have hts := take_succ_flat wenc (madeF l) i hlt
    have hmi : (madeF l)[i] = mk l[i] := by simp [madeF]
    rw [hmi] at hts
    have hat := hv.at_ (fun _ _ => rfl) i hll
    have hri := hr l[i] (List.getElem_mem hll)
    generalize l[i] = q at *
    obtain ⟨a, b⟩ := q
    have ha1 : ∀ κ' w, κ.le κ' → Hp κ' w [] → At w ⟨b0, off0 + i * 2 + 1, [.int .i64 b]⟩ := fun κ' w l hH => by
      obtain ⟨cs, t, fr, h1, h2⟩ := hat κ' w l hH
      refine ⟨cs, t, fr, h1, fun j u hu => ?_⟩
      cases j with
      | zero => exact h2 1 u hu
      | succ j => simp at hu
    have hb := tmod_mod b (p := 24) (by omega)
    simp only at hri
    refine evF [] [] (LFok.cons ha1 (LFok.nil _ _)) [0, 0, 0, 0, 1, 1, 0, 0, 0, 0] tab hF hH rfl (by first | exact trivial | (simp only [All, inK_i64, inK_u64, inK_u32, inK_u8, inK_i32, max_i64, max_u64, IntKind.bits, Int.reduceToNat, Int.reduceAdd, Nat.reducePow, Int.reducePow, and_true, true_and, and_self] <;> omega)) ?_
    intro A w hF hH
    simp only [Int.reduceToNat, hb.1] at hF
    refine wpList_nil ?_
    refine wp_region_lit ?_
    have hp1 := Int.emod_nonneg b (b := 24) (by omega)
    have hp2 := Int.emod_lt_of_pos b (b := 24) (by omega)
    generalize hp : 1 + b % 24 = p at *
    have ha := tmod_mod a (p := p) (by omega)
    have hp3 := Int.emod_nonneg a (b := p) (by omega)
    have hp4 := Int.emod_lt_of_pos a (b := p) (by omega)
    refine evF [] [] (LFok.cons hat (LFok.nil _ _)) [0, 0, 0, 0, 0, 1, 0, 1, 0, 0, 0, 0, 0, 0, 0] tab hF hH rfl (by first | exact trivial | (simp only [All, inK_i64, inK_u64, inK_u32, inK_u8, inK_i32, max_i64, max_u64, IntKind.bits, Int.reduceToNat, Int.reduceAdd, Nat.reducePow, Int.reducePow, and_true, true_and, and_self] <;> omega)) ?_
    intro A w hF hH
    simp only [Int.reduceToNat, ha.1] at hF
    have hmk : mk (a, b) = (1 + a % p, p) := by simp only [mk, hp]
    rw [hmk] at hts
    refine list_act hF rfl ?_
    refine op_buildSlice hF tab rfl rfl rfl rfl rfl rfl rfl rfl hH ?_
    intro bs A w hF hH
    have hat2 := row_at hH (off := 0) (vs := [.int .i64 (1 + a % p), .int .i64 p]) (fun j u h => by simpa using h)
    have hH := hH.tail
    refine list_act hF rfl ?_
    refine op_append hF tab rfl rfl rfl rfl rfl rfl rfl rfl hH hat2 rfl rfl (by simp [maxLen]; omega) (by simp; omega) ?_
    intro v A w hF hH
    refine ev0 [0] tab hF hH rfl (by first | exact trivial | (simp only [All, inK_i64, inK_u64, inK_u32, inK_u8, inK_i32, max_i64, max_u64, IntKind.bits, Int.reduceToNat, Int.reduceAdd, Nat.reducePow, Int.reducePow, and_true, true_and, and_self] <;> omega)) ?_
    intro A w hF hH
    refine wpList_nil ?_
    refine wp_region_lit ?_
    refine ev0 [0, 0, 0] tab hF hH rfl (by first | exact trivial | (simp only [All, inK_i64, inK_u64, inK_u32, inK_u8, inK_i32, max_i64, max_u64, IntKind.bits, Int.reduceToNat, Int.reduceAdd, Nat.reducePow, Int.reducePow, and_true, true_and, and_self] <;> omega)) ?_
    intro A w hF hH
    refine wpList_nil ?_
    refine ⟨i + 1, ⟨by omega, v, Fr.to hF ⟨rfl, rfl, rfl, trivial⟩, ?_⟩, by omega⟩
    rw [← hts]; exact hH
  · have e : i = (madeF l).length := by omega
    have hcase : (i : Int) < l.length ∧ ¬ (i : Int) < 8 ∨ ¬ (i : Int) < l.length := by omega
    have hend : ∀ w, Hp κ w (osl o 45 2 i (((madeF l).take i).flatMap wenc) :: C) → ∃ κ', κ.le κ' ∧ Hp κ' w C ∧ ∀ X, Rd κ' X 2 wenc o (madeF l) := fun w hH => by
      subst e
      rw [List.take_length] at hH
      exact osl_freeze (enc := wenc) (fun _ _ => rfl) hH
    rcases hcase with hc | hc
    · skip
      refine ev0 [0, 0, 0, 1, 0, 0, 2, 0] tab hF hH rfl (by first | exact trivial | (simp only [All, inK_i64, inK_u64, inK_u32, inK_u8, inK_i32, max_i64, max_u64, IntKind.bits, Int.reduceToNat, Int.reduceAdd, Nat.reducePow, Int.reducePow, and_true, true_and, and_self] <;> omega)) ?_
      intro A w hF hH
      refine wpList_nil ?_
      refine cond_f hF rfl rfl ?_
      refine wp_exit ?_
      repeat (first | refine then_exit ?_ | refine ng_exit ?_ | refine blk_exit ?_ | refine blk_exit_ne rfl ?_)
      refine wp_seq ?_
      refine wp_region_lit ?_
      obtain ⟨κ', l, hH, hr⟩ := hend _ hH
      refine ev0 [0, 0] tab hF hH rfl (by first | exact trivial | (simp only [All, inK_i64, inK_u64, inK_u32, inK_u8, inK_i32, max_i64, max_u64, IntKind.bits, Int.reduceToNat, Int.reduceAdd, Nat.reducePow, Int.reducePow, and_true, true_and, and_self] <;> omega)) ?_
      intro A w hF hH
      refine wpList_nil ?_
      refine wp_ret ?_
      repeat (first | refine then_ret ?_ | refine blk_ret ?_ | refine ng_ret ?_)
      refine ret (M := []) (hs := []) tab hF hH rfl (by first | exact trivial | (simp only [All, inK_i64, inK_u64, inK_u32, inK_u8, inK_i32, max_i64, max_u64, IntKind.bits, Int.reduceToNat, Int.reduceAdd, Nat.reducePow, Int.reducePow, and_true, true_and, and_self] <;> omega)) ?_
      exact ⟨κ', o, l, rfl, hr [], hH⟩
    · skip
      refine ev0 [0, 0, 0, 2, 0, 0, 0, 0] tab hF hH rfl (by first | exact trivial | (simp only [All, inK_i64, inK_u64, inK_u32, inK_u8, inK_i32, max_i64, max_u64, IntKind.bits, Int.reduceToNat, Int.reduceAdd, Nat.reducePow, Int.reducePow, and_true, true_and, and_self] <;> omega)) ?_
      intro A w hF hH
      refine wpList_nil ?_
      refine cond_f hF rfl rfl ?_
      refine wp_exit ?_
      repeat (first | refine then_exit ?_ | refine ng_exit ?_ | refine blk_exit ?_ | refine blk_exit_ne rfl ?_)
      refine wp_seq ?_
      refine wp_region_lit ?_
      obtain ⟨κ', l, hH, hr⟩ := hend _ hH
      refine ev0 [0, 0] tab hF hH rfl (by first | exact trivial | (simp only [All, inK_i64, inK_u64, inK_u32, inK_u8, inK_i32, max_i64, max_u64, IntKind.bits, Int.reduceToNat, Int.reduceAdd, Nat.reducePow, Int.reducePow, and_true, true_and, and_self] <;> omega)) ?_
      intro A w hF hH
      refine wpList_nil ?_
      refine wp_ret ?_
      repeat (first | refine then_ret ?_ | refine blk_ret ?_ | refine ng_ret ?_)
      refine ret (M := []) (hs := []) tab hF hH rfl (by first | exact trivial | (simp only [All, inK_i64, inK_u64, inK_u32, inK_u8, inK_i32, max_i64, max_u64, IntKind.bits, Int.reduceToNat, Int.reduceAdd, Nat.reducePow, Int.reducePow, and_true, true_and, and_self] <;> omega)) ?_
      exact ⟨κ', o, l, rfl, hr [], hH⟩
set_option maxRecDepth 20000 in
theorem rcheck4_calls {E P : Int} (h : WOk (E, P)) (hH : Hp κ w C) : Calls Try.prog 60 #[.agg #[.int .i64 E, .int .i64 P]] w (fun e w' => e = .returned (.bool true) ∧ Hp κ w' C) := by
  obtain ⟨h1, h2, h3⟩ := h
  simp only at h1 h2 h3
  refine enter (args := [.agg #[.int .i64 E, .int .i64 P]]) Try.func60 rfl rfl ?_
  intro A hF
  refine wp_seq ?_
  refine wp_region_lit ?_
  refine list_act hF rfl ?_
  refine op_box hF rfl rfl rfl rfl rfl hH ?_
  intro b A w hF hH
  refine evM [⟨b, [.int .i64 E, .int .i64 P], 28⟩] [0] tab hF hH rfl (by first | exact trivial | (simp only [All, inK_i64, inK_u64, inK_u32, inK_u8, inK_i32, max_i64, max_u64, IntKind.bits, Int.reduceToNat, Int.reduceAdd, Nat.reducePow, Int.reducePow, and_true, true_and, and_self] <;> omega)) ?_
  intro A w hF hH
  refine wpList_nil ?_
  refine wp_seq ?_
  refine wp_region_lit ?_
  refine evM [⟨b, [.int .i64 E, .int .i64 P], 28⟩] [0, 0, 1, 0, 0, 0, 0, 0, 1, 0, 0, 0, 0, 1, 0, 0] tab hF hH rfl (by first | exact trivial | (simp only [All, inK_i64, inK_u64, inK_u32, inK_u8, inK_i32, max_i64, max_u64, IntKind.bits, Int.reduceToNat, Int.reduceAdd, Nat.reducePow, Int.reducePow, and_true, true_and, and_self] <;> omega)) ?_
  intro A w hF hH
  refine wpList_nil ?_
  refine wp_ret ?_
  repeat (first | refine then_ret ?_ | refine blk_ret ?_ | refine ng_ret ?_)
  refine ret (M := []) (hs := []) tab hF hH rfl (by first | exact trivial | (simp only [All, inK_i64, inK_u64, inK_u32, inK_u8, inK_i32, max_i64, max_u64, IntKind.bits, Int.reduceToNat, Int.reduceAdd, Nat.reducePow, Int.reducePow, and_true, true_and, and_self] <;> omega)) ?_
  exact ⟨rfl, hH.tail⟩
set_option maxRecDepth 20000 in
theorem low_calls {E P k : Int} (h : WOk (E, P)) (h0 : 0 ≤ k) (h1 : k ≤ 1099511627776) (hH : Hp κ w C) : Calls Try.prog 15 #[.agg #[.int .i64 E, .int .i64 P], .int .i64 k] w (fun e w' => e = .returned (.int .i64 (E * k / P)) ∧ Hp κ w' C) := by
  have hr : ∀ (w : World) (C : List HP), Hp κ w C → Calls Try.prog 39 #[.agg #[.int .i64 E, .int .i64 P], .int .i64 k, .int .i64 0] w (fun e w' => e = .returned (.bool true) ∧ Hp κ w' C) := by
    intro w C hH
    refine enter (args := [.agg #[.int .i64 E, .int .i64 P], .int .i64 k, .int .i64 0]) Try.func39 rfl rfl ?_
    intro A hF
    refine wp_seq ?_
    refine wp_region_lit ?_
    refine list_act hF rfl ?_
    refine op_box hF rfl rfl rfl rfl rfl hH ?_
    intro b A w hF hH
    refine evM [⟨b, [.int .i64 E, .int .i64 P], 28⟩] [0] tab hF hH rfl (by first | exact trivial | (simp only [All, inK_i64, inK_u64, inK_u32, inK_u8, inK_i32, max_i64, max_u64, IntKind.bits, Int.reduceToNat, Int.reduceAdd, Nat.reducePow, Int.reducePow, and_true, true_and, and_self] <;> omega)) ?_
    intro A w hF hH
    refine wpList_nil ?_
    refine wp_seq ?_
    refine wp_region_lit ?_
    refine evM [⟨b, [.int .i64 E, .int .i64 P], 28⟩] [0] tab hF hH rfl (by first | exact trivial | (simp only [All, inK_i64, inK_u64, inK_u32, inK_u8, inK_i32, max_i64, max_u64, IntKind.bits, Int.reduceToNat, Int.reduceAdd, Nat.reducePow, Int.reducePow, and_true, true_and, and_self] <;> omega)) ?_
    intro A w hF hH
    refine list_act hF rfl ?_
    refine op_call hF rfl rfl rfl rfl rfl rfl isF60 (rcheck4_calls h hH) ?_
    rintro e w ⟨rfl, hH⟩
    refine ⟨_, rfl, fun A hF => ?_⟩
    refine ev0 [0] tab hF hH rfl (by first | exact trivial | (simp only [All, inK_i64, inK_u64, inK_u32, inK_u8, inK_i32, max_i64, max_u64, IntKind.bits, Int.reduceToNat, Int.reduceAdd, Nat.reducePow, Int.reducePow, and_true, true_and, and_self] <;> omega)) ?_
    intro A w hF hH
    refine wpList_nil ?_
    refine wp_seq ?_
    refine wp_region_lit ?_
    refine ev0 [0, 0, 0, 1, 0, 0, 0, 1, 0, 0, 0, 1, 0, 0, 0, 1, 0, 0] tab hF hH rfl (by first | exact trivial | (simp only [All, inK_i64, inK_u64, inK_u32, inK_u8, inK_i32, max_i64, max_u64, IntKind.bits, Int.reduceToNat, Int.reduceAdd, Nat.reducePow, Int.reducePow, and_true, true_and, and_self] <;> omega)) ?_
    intro A w hF hH
    refine wpList_nil ?_
    refine wp_ret ?_
    repeat (first | refine then_ret ?_ | refine blk_ret ?_ | refine ng_ret ?_)
    refine ret (M := []) (hs := []) tab hF hH rfl (by first | exact trivial | (simp only [All, inK_i64, inK_u64, inK_u32, inK_u8, inK_i32, max_i64, max_u64, IntKind.bits, Int.reduceToNat, Int.reduceAdd, Nat.reducePow, Int.reducePow, and_true, true_and, and_self] <;> omega)) ?_
    exact ⟨rfl, hH.tail⟩
  obtain ⟨g1, g2, g3⟩ := h
  simp only at g1 g2 g3
  have hm : E * k ≤ 1048576 * 1099511627776 := Int.mul_le_mul (by omega) h1 h0 (by omega)
  have hm0 : 0 ≤ E * k := Int.mul_nonneg (by omega) h0
  refine enter (args := [.agg #[.int .i64 E, .int .i64 P], .int .i64 k]) Try.func15 rfl rfl ?_
  intro A hF
  refine wp_seq ?_
  refine wp_region_lit ?_
  refine list_act hF rfl ?_
  refine op_box hF rfl rfl rfl rfl rfl hH ?_
  intro b A w hF hH
  refine evM [⟨b, [.int .i64 E, .int .i64 P], 28⟩] [0] tab hF hH rfl (by first | exact trivial | (simp only [All, inK_i64, inK_u64, inK_u32, inK_u8, inK_i32, max_i64, max_u64, IntKind.bits, Int.reduceToNat, Int.reduceAdd, Nat.reducePow, Int.reducePow, and_true, true_and, and_self] <;> omega)) ?_
  intro A w hF hH
  refine wpList_nil ?_
  refine wp_seq ?_
  refine wp_region_lit ?_
  refine evM [⟨b, [.int .i64 E, .int .i64 P], 28⟩] [0, 0] tab hF hH rfl (by first | exact trivial | (simp only [All, inK_i64, inK_u64, inK_u32, inK_u8, inK_i32, max_i64, max_u64, IntKind.bits, Int.reduceToNat, Int.reduceAdd, Nat.reducePow, Int.reducePow, and_true, true_and, and_self] <;> omega)) ?_
  intro A w hF hH
  refine list_act hF rfl ?_
  refine op_call hF rfl rfl rfl rfl rfl rfl isF39 (hr _ _ hH) ?_
  rintro e w ⟨rfl, hH⟩
  refine ⟨_, rfl, fun A hF => ?_⟩
  refine ev0 [0] tab hF hH rfl (by first | exact trivial | (simp only [All, inK_i64, inK_u64, inK_u32, inK_u8, inK_i32, max_i64, max_u64, IntKind.bits, Int.reduceToNat, Int.reduceAdd, Nat.reducePow, Int.reducePow, and_true, true_and, and_self] <;> omega)) ?_
  intro A w hF hH
  refine wpList_nil ?_
  refine wp_seq ?_
  refine wp_seq ?_
  refine wp_region_lit ?_
  refine ev0 [0, 0] tab hF hH rfl (by first | exact trivial | (simp only [All, inK_i64, inK_u64, inK_u32, inK_u8, inK_i32, max_i64, max_u64, IntKind.bits, Int.reduceToNat, Int.reduceAdd, Nat.reducePow, Int.reducePow, and_true, true_and, and_self] <;> omega)) ?_
  intro A w hF hH
  refine wpList_nil ?_
  refine cond_f hF rfl rfl ?_
  refine wp_skip ?_
  refine wp_seq ?_
  refine wp_region_lit ?_
  refine evM [⟨b, [.int .i64 E, .int .i64 P], 28⟩] [0, 0, 0, 0, 0, 0, 0, 0] tab hF hH rfl (by first | exact trivial | (simp only [All, inK_i64, inK_u64, inK_u32, inK_u8, inK_i32, max_i64, max_u64, IntKind.bits, Int.reduceToNat, Int.reduceAdd, Nat.reducePow, Int.reducePow, and_true, true_and, and_self] <;> omega)) ?_
  intro A w hF hH
  refine wpList_nil ?_
  refine wp_ret ?_
  repeat (first | refine then_ret ?_ | refine blk_ret ?_ | refine ng_ret ?_)
  refine ret (M := []) (hs := []) tab hF hH rfl (by first | exact trivial | (simp only [All, inK_i64, inK_u64, inK_u32, inK_u8, inK_i32, max_i64, max_u64, IntKind.bits, Int.reduceToNat, Int.reduceAdd, Nat.reducePow, Int.reducePow, and_true, true_and, and_self] <;> omega)) ?_
  exact ⟨rfl, hH.tail⟩
end
end Go.Proofs.Try
