/- Contracts of the supertask's functions: its weight, walked. -/
import Derived.Test.YtfapcagleghlaaaRc
set_option linter.all false
namespace Go.Proofs.Try
open Go Go.Sep

theorem over_one {ps : List (Int × Int)} (hp : ∀ p ∈ ps, POk p) : 0 < cmpI ((sumW (0, 1) ps).1 * 1) (1 * (sumW (0, 1) ps).2) ↔ perF ps < sumS (perF ps) ps := by
  obtain ⟨h1, h2⟩ := perF_spec hp
  obtain ⟨s1, s2, s3, _⟩ := sumW_spec (perF ps) ps 0 1 0 0 (by omega) (by omega) (by omega) (fun p h => ⟨(hp p h).w, h2 p h⟩) (by simp)
  rw [cmpI_gtr, Int.mul_one, Int.one_mul]
  rw [Int.zero_add] at s3
  generalize (sumW (0, 1) ps).1 = n at *
  generalize (sumW (0, 1) ps).2 = d at *
  generalize sumS (perF ps) ps = S at *
  generalize perF ps = L at *
  constructor
  · intro h
    have := Int.mul_lt_mul_of_pos_right h (show 0 < L by omega)
    rw [s3] at this
    exact Int.lt_of_mul_lt_mul_left this (by omega)
  · intro h
    have := Int.mul_lt_mul_of_pos_left h s1
    rw [← s3] at this
    exact Int.lt_of_mul_lt_mul_right this (by omega)
section
variable {κ : K} {w : World} {C : List HP}
set_option maxRecDepth 20000 in
theorem sweight_calls {v : Value} {ps : List (Int × Int)} (hv : Rd κ [] 2 wenc v ps) (hp : ∀ p ∈ ps, POk p) (hlen : ps.length ≤ 8) (hH : Hp κ w C) :
    Calls Try.prog 10 #[v] w (fun e w' => e = .returned (.tuple #[.agg #[.int .i64 (weightF ps).1, .int .i64 (weightF ps).2.1], .int .i64 (weightF ps).2.2]) ∧ Hp κ w' C) := by
  have hv0 := hv
  obtain ⟨A0, cap, rfl, hcap⟩ := hv.form
  refine enter (args := [.slice A0 ps.length cap]) Try.func10 rfl rfl ?_
  intro A hF
  refine wp_seq ?_
  refine wp_region_lit ?_
  refine list_act hF rfl ?_
  refine op_alloc hF tab rfl rfl rfl rfl rfl hH ?_
  intro b A w hF hH
  refine ev0 [0] tab hF hH rfl (by first | exact trivial | (simp only [All, inK_i64, inK_u64, inK_u32, inK_u8, inK_i32, max_i64, max_u64, IntKind.bits, Int.reduceToNat, Int.reduceAdd, Nat.reducePow, Int.reducePow, and_true, true_and, and_self] <;> omega)) ?_
  intro A w hF hH
  refine wpList_nil ?_
  refine wp_seq ?_
  refine wp_seq ?_
  refine wp_region_lit ?_
  refine ev0 [0] tab hF hH rfl (by first | exact trivial | (simp only [All, inK_i64, inK_u64, inK_u32, inK_u8, inK_i32, max_i64, max_u64, IntKind.bits, Int.reduceToNat, Int.reduceAdd, Nat.reducePow, Int.reducePow, and_true, true_and, and_self] <;> omega)) ?_
  intro A w hF hH
  refine list_act hF rfl ?_
  refine op_call hF rfl rfl rfl rfl rfl rfl isF25 (check_calls hv0 hp hlen hH) ?_
  rintro e w ⟨rfl, hH⟩
  refine ⟨_, rfl, fun A hF => ?_⟩
  by_cases h0 : ps = []
  · rw [show decide (ps ≠ []) = false from by simpa using h0] at hF
    refine ev0 [0] tab hF hH rfl (by first | exact trivial | (simp only [All, inK_i64, inK_u64, inK_u32, inK_u8, inK_i32, max_i64, max_u64, IntKind.bits, Int.reduceToNat, Int.reduceAdd, Nat.reducePow, Int.reducePow, and_true, true_and, and_self] <;> omega)) ?_
    intro A w hF hH
    refine wpList_nil ?_
    refine cond_t hF rfl rfl ?_
    refine wp_seq ?_
    refine wp_region_lit ?_
    refine evM [⟨b, [.int .i64 0, .int .i64 0], 28⟩] [0, 0, 0] tab hF hH rfl (by first | exact trivial | (simp only [All, inK_i64, inK_u64, inK_u32, inK_u8, inK_i32, max_i64, max_u64, IntKind.bits, Int.reduceToNat, Int.reduceAdd, Nat.reducePow, Int.reducePow, and_true, true_and, and_self] <;> omega)) ?_
    intro A w hF hH
    refine wpList_nil ?_
    refine wp_ret ?_
    repeat (first | refine then_ret ?_ | refine blk_ret ?_ | refine ng_ret ?_)
    refine ret (M := [⟨b, [.int .i64 0, .int .i64 0], 28⟩]) (hs := [0]) tab hF hH rfl (by first | exact trivial | (simp only [All, inK_i64, inK_u64, inK_u32, inK_u8, inK_i32, max_i64, max_u64, IntKind.bits, Int.reduceToNat, Int.reduceAdd, Nat.reducePow, Int.reducePow, and_true, true_and, and_self] <;> omega)) ?_
    rw [show weightF ps = (0, 0, 1) from by simp [weightF, h0]]
    exact ⟨rfl, hH.tail⟩
  · skip
    rw [show decide (ps ≠ []) = true from by simpa using h0] at hF
    have hl0 : 0 < ps.length := List.length_pos_iff.2 h0
    obtain ⟨hL1, hLd⟩ := perF_spec hp
    obtain ⟨m1, m2⟩ := minP_spec hp h0
    obtain ⟨hok, _⟩ := lcmOk_of (ps.map (·.2)) 1 0 (by omega) (by simp) (fun n hn => by
      obtain ⟨p, hp', rfl⟩ := List.mem_map.1 hn
      have := hp p hp'
      have h1 := this.1
      have h2 := this.2.1
      have h3 := this.2.2
      omega) (by simpa using hlen)
    refine ev0 [0] tab hF hH rfl (by first | exact trivial | (simp only [All, inK_i64, inK_u64, inK_u32, inK_u8, inK_i32, max_i64, max_u64, IntKind.bits, Int.reduceToNat, Int.reduceAdd, Nat.reducePow, Int.reducePow, and_true, true_and, and_self] <;> omega)) ?_
    intro A w hF hH
    refine wpList_nil ?_
    refine cond_f hF rfl rfl ?_
    refine wp_skip ?_
    refine wp_seq ?_
    refine wp_region_lit ?_
    refine ev0 [0] tab hF hH rfl (by first | exact trivial | (simp only [All, inK_i64, inK_u64, inK_u32, inK_u8, inK_i32, max_i64, max_u64, IntKind.bits, Int.reduceToNat, Int.reduceAdd, Nat.reducePow, Int.reducePow, and_true, true_and, and_self] <;> omega)) ?_
    intro A w hF hH
    refine wpList_nil ?_
    refine wp_seq ?_
    refine wp_seq ?_
    refine wp_region_lit ?_
    refine ev0 [0, 0, 0] tab hF hH rfl (by first | exact trivial | (simp only [All, inK_i64, inK_u64, inK_u32, inK_u8, inK_i32, max_i64, max_u64, IntKind.bits, Int.reduceToNat, Int.reduceAdd, Nat.reducePow, Int.reducePow, and_true, true_and, and_self] <;> omega)) ?_
    intro A w hF hH
    refine wpList_nil ?_
    refine wp_block ?_
    have hH := osl_nil 2 1 hH
    refine loop_j (fun (i : Nat) A w => i ≤ ps.length ∧ ∃ o, Fr 73 A [(18, .int .i64 i), (17, .int .i64 ps.length), (16, .slice A0 ps.length cap), (0, .slice A0 ps.length cap), (4, o), (2, .pointer (some ⟨b, 0, none⟩))] ∧ Hp κ w (osl o 2 1 i (((ps.map (·.2)).take i).flatMap e64) :: row b [.int .i64 0, .int .i64 0] 28 :: C)) (fun i => ps.length - i) 0 ⟨Nat.zero_le _, _, Fr.to hF ⟨rfl, rfl, rfl, rfl, rfl, rfl, trivial⟩, hH⟩ ?_
    rintro i A w ⟨hi, o, hF, hH⟩
    refine wp_seq ?_
    refine wp_region_lit ?_
    by_cases hlt : i < ps.length
    · refine ev0 [1] tab hF hH rfl (by first | exact trivial | (simp only [All, inK_i64, inK_u64, inK_u32, inK_u8, inK_i32, max_i64, max_u64, IntKind.bits, Int.reduceToNat, Int.reduceAdd, Nat.reducePow, Int.reducePow, and_true, true_and, and_self] <;> omega)) ?_
      intro A w hF hH
      refine wpList_nil ?_
      refine wp_seq ?_
      refine cond_t hF rfl rfl ?_
      refine wp_skip ?_
      refine wp_seq ?_
      refine wp_block ?_
      refine wp_seq ?_
      refine wp_region_lit ?_
      obtain ⟨b0, off0, rfl⟩ := hv.addr (by omega)
      have hts := take_succ_flat e64 (ps.map (·.2)) i (by simpa using hlt)
      rw [List.getElem_map] at hts
      refine evF [] [] (LFok.cons (hv.at_ (fun _ _ => rfl) i hlt) (LFok.nil _ _)) [0, 1] tab hF hH rfl (by first | exact trivial | (simp only [All, inK_i64, inK_u64, inK_u32, inK_u8, inK_i32, max_i64, max_u64, IntKind.bits, Int.reduceToNat, Int.reduceAdd, Nat.reducePow, Int.reducePow, and_true, true_and, and_self] <;> omega)) ?_
      intro A w hF hH
      generalize ps[i] = p at *
      obtain ⟨E, P⟩ := p
      refine list_act hF rfl ?_
      refine op_alloc hF tab rfl rfl rfl rfl rfl hH ?_
      intro b5 A w hF hH
      refine evM [⟨b5, [.int .i64 0, .int .i64 0], 45⟩] [0] tab hF hH rfl (by first | exact trivial | (simp only [All, inK_i64, inK_u64, inK_u32, inK_u8, inK_i32, max_i64, max_u64, IntKind.bits, Int.reduceToNat, Int.reduceAdd, Nat.reducePow, Int.reducePow, and_true, true_and, and_self] <;> omega)) ?_
      intro A w hF hH
      refine wpList_nil ?_
      refine wp_region_lit ?_
      refine evM [⟨b5, [.int .i64 E, .int .i64 P], 45⟩] [0, 0, 0] tab hF hH rfl (by first | exact trivial | (simp only [All, inK_i64, inK_u64, inK_u32, inK_u8, inK_i32, max_i64, max_u64, IntKind.bits, Int.reduceToNat, Int.reduceAdd, Nat.reducePow, Int.reducePow, and_true, true_and, and_self] <;> omega)) ?_
      intro A w hF hH
      have hH := hH.tail
      refine list_act hF rfl ?_
      refine op_buildSlice hF tab rfl rfl rfl rfl rfl rfl rfl rfl hH ?_
      intro bs A w hF hH
      have hat := row_at hH (off := 0) (vs := [.int .i64 P]) (fun j u h => by simpa using h)
      have hH := hH.tail
      refine list_act hF rfl ?_
      refine op_append hF tab rfl rfl rfl rfl rfl rfl rfl rfl hH hat rfl rfl (by simp [maxLen]; omega) (by simp; omega) ?_
      intro v A w hF hH
      refine ev0 [0] tab hF hH rfl (by first | exact trivial | (simp only [All, inK_i64, inK_u64, inK_u32, inK_u8, inK_i32, max_i64, max_u64, IntKind.bits, Int.reduceToNat, Int.reduceAdd, Nat.reducePow, Int.reducePow, and_true, true_and, and_self] <;> omega)) ?_
      intro A w hF hH
      refine wpList_nil ?_
      refine wp_region_lit ?_
      refine ev0 [0, 0] tab hF hH rfl (by first | exact trivial | (simp only [All, inK_i64, inK_u64, inK_u32, inK_u8, inK_i32, max_i64, max_u64, IntKind.bits, Int.reduceToNat, Int.reduceAdd, Nat.reducePow, Int.reducePow, and_true, true_and, and_self] <;> omega)) ?_
      intro A w hF hH
      refine wpList_nil ?_
      refine ⟨i + 1, ⟨by omega, v, Fr.to hF ⟨rfl, rfl, rfl, rfl, rfl, rfl, trivial⟩, ?_⟩, by omega⟩
      rw [← hts]; exact hH
    · skip
      refine ev0 [2] tab hF hH rfl (by first | exact trivial | (simp only [All, inK_i64, inK_u64, inK_u32, inK_u8, inK_i32, max_i64, max_u64, IntKind.bits, Int.reduceToNat, Int.reduceAdd, Nat.reducePow, Int.reducePow, and_true, true_and, and_self] <;> omega)) ?_
      intro A w hF hH
      refine wpList_nil ?_
      refine wp_seq ?_
      refine cond_f hF rfl rfl ?_
      refine wp_exit ?_
      repeat (first | refine then_exit ?_ | refine ng_exit ?_ | refine blk_exit ?_ | refine blk_exit_ne rfl ?_)
      refine wp_seq ?_
      refine wp_region_lit ?_
      have e : i = (ps.map (·.2)).length := by simp; omega
      subst e
      rw [List.take_length] at hH
      obtain ⟨κ', l, hH, hr⟩ := osl_freeze (enc := e64) (fun _ _ => rfl) hH
      refine ev0 [0] tab hF hH rfl (by first | exact trivial | (simp only [All, inK_i64, inK_u64, inK_u32, inK_u8, inK_i32, max_i64, max_u64, IntKind.bits, Int.reduceToNat, Int.reduceAdd, Nat.reducePow, Int.reducePow, and_true, true_and, and_self] <;> omega)) ?_
      intro A w hF hH
      refine list_act hF rfl ?_
      refine op_call hF rfl rfl rfl rfl rfl rfl isF26 (lcm_calls κ' [] o _ (hr []) (by simp; omega) hok _ _ hH) ?_
      rintro e w ⟨rfl, hH⟩
      refine ⟨_, rfl, fun A hF => ?_⟩
      have hpe : lcmF 1 (ps.map (·.2)) = perF ps := rfl
      rw [hpe] at hF
      refine ev0 [0, 0, 0, 0, 0] tab hF hH rfl (by first | exact trivial | (simp only [All, inK_i64, inK_u64, inK_u32, inK_u8, inK_i32, max_i64, max_u64, IntKind.bits, Int.reduceToNat, Int.reduceAdd, Nat.reducePow, Int.reducePow, and_true, true_and, and_self] <;> omega)) ?_
      intro A w hF hH
      refine wpList_nil ?_
      refine wp_seq ?_
      refine wp_block ?_
      refine wp_seq ?_
      refine wp_region_lit ?_
      by_cases h1 : 1048576 < perF ps
      · refine ev0 [0, 2, 0, 0, 1, 0, 0] tab hF hH rfl (by first | exact trivial | (simp only [All, inK_i64, inK_u64, inK_u32, inK_u8, inK_i32, max_i64, max_u64, IntKind.bits, Int.reduceToNat, Int.reduceAdd, Nat.reducePow, Int.reducePow, and_true, true_and, and_self] <;> omega)) ?_
        intro A w hF hH
        refine wpList_nil ?_
        refine cond_t hF rfl rfl ?_
        refine wp_seq ?_
        refine wp_region_lit ?_
        refine evM [⟨b, [.int .i64 0, .int .i64 0], 28⟩] [0, 0, 0] tab hF hH rfl (by first | exact trivial | (simp only [All, inK_i64, inK_u64, inK_u32, inK_u8, inK_i32, max_i64, max_u64, IntKind.bits, Int.reduceToNat, Int.reduceAdd, Nat.reducePow, Int.reducePow, and_true, true_and, and_self] <;> omega)) ?_
        intro A w hF hH
        refine wpList_nil ?_
        refine wp_ret ?_
        repeat (first | refine then_ret ?_ | refine blk_ret ?_ | refine ng_ret ?_)
        refine ret (M := [⟨b, [.int .i64 0, .int .i64 0], 28⟩]) (hs := [0]) tab hF hH rfl (by first | exact trivial | (simp only [All, inK_i64, inK_u64, inK_u32, inK_u8, inK_i32, max_i64, max_u64, IntKind.bits, Int.reduceToNat, Int.reduceAdd, Nat.reducePow, Int.reducePow, and_true, true_and, and_self] <;> omega)) ?_
        rw [show weightF ps = (0, 0, 16) from by simp [weightF, h0, h1]]
        exact ⟨rfl, (hH.lower l).tail⟩
      · skip
        refine ev0 [0, 2, 0, 0, 2, 0, 0] tab hF hH rfl (by first | exact trivial | (simp only [All, inK_i64, inK_u64, inK_u32, inK_u8, inK_i32, max_i64, max_u64, IntKind.bits, Int.reduceToNat, Int.reduceAdd, Nat.reducePow, Int.reducePow, and_true, true_and, and_self] <;> omega)) ?_
        intro A w hF hH
        refine wpList_nil ?_
        refine cond_f hF rfl rfl ?_
        refine wp_seq ?_
        refine wp_region_lit ?_
        refine ev0 [0] tab hF hH rfl (by first | exact trivial | (simp only [All, inK_i64, inK_u64, inK_u32, inK_u8, inK_i32, max_i64, max_u64, IntKind.bits, Int.reduceToNat, Int.reduceAdd, Nat.reducePow, Int.reducePow, and_true, true_and, and_self] <;> omega)) ?_
        intro A w hF hH
        refine list_act hF rfl ?_
        refine op_call hF rfl rfl rfl rfl rfl rfl isF28 (use_calls (hv0.mono l) hp hlen hl0 hH) ?_
        rintro e w ⟨κ2, x, y, l2, rfl, hxy, hH⟩
        refine ⟨_, rfl, fun A hF => ?_⟩
        refine list_act hF rfl ?_
        refine op_call hF rfl rfl rfl rfl rfl rfl isF29 (whole_calls (n := 1) (by omega) (by omega) hH) ?_
        rintro e w ⟨κ3, x3, y3, l3, rfl, hxy3, hH⟩
        refine ⟨_, rfl, fun A hF => ?_⟩
        obtain ⟨s1, s2, s3, s4, s5⟩ := sumW_spec (perF ps) ps 0 1 0 0 (by omega) (by omega) (by omega) (fun p h => ⟨(hp p h).w, hLd p h⟩) (by simp)
        have hdk : (sumW (0, 1) ps).2 ≤ 2 ^ 160 := by
          refine Int.le_trans s5 ?_
          have h1 := Nat.pow_le_pow_right (n := 1048576) (by decide) hlen
          have h2 : (1048576 : Nat) ^ 8 = 2 ^ 160 := by decide
          rw [h2] at h1
          rw [show (1048576 : Int) = ((1048576 : Nat) : Int) from rfl, ← Int.natCast_pow]
          omega
        have hnk : (sumW (0, 1) ps).1 ≤ 8 * (sumW (0, 1) ps).2 := Int.le_trans s4 (Int.mul_le_mul_of_nonneg_right (by omega) (by omega))
        refine list_act hF rfl ?_
        refine op_call hF rfl rfl rfl rfl rfl rfl isF27 (rcmp_calls (hxy.mono l3) hxy3 (lt_BIG (by omega)) (lt_BIG (by omega)) (lt_BIG (by omega)) (lt_BIG (by omega)) hH) ?_
        rintro e w ⟨rfl, hH⟩
        refine ⟨_, rfl, fun A hF => ?_⟩
        have ho := over_one hp
        have hH := (hH.lower l3).lower l2
        by_cases h2 : perF ps < sumS (perF ps) ps
        · have hc := ho.2 h2
          refine ev0 [1, 0] tab hF hH rfl (by first | exact trivial | (simp only [All, inK_i64, inK_u64, inK_u32, inK_u8, inK_i32, max_i64, max_u64, IntKind.bits, Int.reduceToNat, Int.reduceAdd, Nat.reducePow, Int.reducePow, and_true, true_and, and_self] <;> omega)) ?_
          intro A w hF hH
          refine wpList_nil ?_
          refine cond_t hF rfl rfl ?_
          refine wp_seq ?_
          refine wp_region_lit ?_
          refine evM [⟨b, [.int .i64 0, .int .i64 0], 28⟩] [0, 0, 0] tab hF hH rfl (by first | exact trivial | (simp only [All, inK_i64, inK_u64, inK_u32, inK_u8, inK_i32, max_i64, max_u64, IntKind.bits, Int.reduceToNat, Int.reduceAdd, Nat.reducePow, Int.reducePow, and_true, true_and, and_self] <;> omega)) ?_
          intro A w hF hH
          refine wpList_nil ?_
          refine wp_ret ?_
          repeat (first | refine then_ret ?_ | refine blk_ret ?_ | refine ng_ret ?_)
          refine ret (M := [⟨b, [.int .i64 0, .int .i64 0], 28⟩]) (hs := [0]) tab hF hH rfl (by first | exact trivial | (simp only [All, inK_i64, inK_u64, inK_u32, inK_u8, inK_i32, max_i64, max_u64, IntKind.bits, Int.reduceToNat, Int.reduceAdd, Nat.reducePow, Int.reducePow, and_true, true_and, and_self] <;> omega)) ?_
          rw [show weightF ps = (0, 0, 18) from by simp [weightF, h0, h1, h2]]
          exact ⟨rfl, (hH.lower l).tail⟩
        · have hc := fun h => h2 (ho.1 h)
          refine ev0 [2, 0] tab hF hH rfl (by first | exact trivial | (simp only [All, inK_i64, inK_u64, inK_u32, inK_u8, inK_i32, max_i64, max_u64, IntKind.bits, Int.reduceToNat, Int.reduceAdd, Nat.reducePow, Int.reducePow, and_true, true_and, and_self] <;> omega)) ?_
          intro A w hF hH
          refine wpList_nil ?_
          refine cond_f hF rfl rfl ?_
          refine wp_skip ?_
          refine wp_seq ?_
          refine wp_region_lit ?_
          obtain ⟨p0, ps0, hps⟩ : ∃ p0 ps0, ps = p0 :: ps0 := by
            cases ps with
            | nil => exact absurd rfl h0
            | cons p0 ps0 => exact ⟨p0, ps0, rfl⟩
          have hrm : Rd κ' [] 1 e64 o (p0.2 :: ps0.map (·.2)) := by have := hr []; rw [hps] at this; exact this
          have hmp : minF p0.2 (ps0.map (·.2)) = minP ps := by rw [hps]; rfl
          obtain ⟨pm, hpm, hpe2⟩ := m2
          have hm1 : 1 ≤ minP ps := by have := (hp pm hpm).1; have := (hp pm hpm).2.1; omega
          have hl8 : ps0.length ≤ 1000000 := by rw [hps] at hlen; simp at hlen; omega
          refine ev0 [0, 0] tab hF hH rfl (by first | exact trivial | (simp only [All, inK_i64, inK_u64, inK_u32, inK_u8, inK_i32, max_i64, max_u64, IntKind.bits, Int.reduceToNat, Int.reduceAdd, Nat.reducePow, Int.reducePow, and_true, true_and, and_self] <;> omega)) ?_
          intro A w hF hH
          refine list_act hF rfl ?_
          refine op_call hF rfl rfl rfl rfl rfl rfl isF30 (min_calls κ' o p0.2 (ps0.map (·.2)) hrm (by simpa using hl8) _ _ hH) ?_
          rintro e w ⟨rfl, hH⟩
          refine ⟨_, rfl, fun A hF => ?_⟩
          rw [hmp] at hF
          have hq0 : 0 ≤ perF ps / minP ps := Int.ediv_nonneg (by omega) (by omega)
          have hq1 : perF ps / minP ps ≤ perF ps := Int.ediv_le_self _ (by omega)
          obtain ⟨hS0, hS1⟩ := sumS_range (L := perF ps) (by omega) (by omega) ps hp
          refine ev0 [0, 0] tab hF hH rfl (by first | exact trivial | (simp only [All, inK_i64, inK_u64, inK_u32, inK_u8, inK_i32, max_i64, max_u64, IntKind.bits, Int.reduceToNat, Int.reduceAdd, Nat.reducePow, Int.reducePow, and_true, true_and, and_self] <;> omega)) ?_
          intro A w hF hH
          refine wpList_nil ?_
          refine wp_seq ?_
          refine wp_seq ?_
          refine wp_region_lit ?_
          refine ev0 [0, 0, 0] tab hF hH rfl (by first | exact trivial | (simp only [All, inK_i64, inK_u64, inK_u32, inK_u8, inK_i32, max_i64, max_u64, IntKind.bits, Int.reduceToNat, Int.reduceAdd, Nat.reducePow, Int.reducePow, and_true, true_and, and_self] <;> omega)) ?_
          intro A w hF hH
          refine wpList_nil ?_
          refine wp_block ?_
          generalize hQ : perF ps / minP ps = Q at *
          refine loop_j (fun (i : Nat) A w => i ≤ ps.length ∧ ∃ q, q + sumS (perF ps) (ps.drop i) = Q + sumS (perF ps) ps ∧ Fr 73 A [(54, .int .i64 i), (53, .int .i64 ps.length), (52, .slice A0 ps.length cap), (9, .int .i64 q), (7, .int .i64 (perF ps)), (2, .pointer (some ⟨b, 0, none⟩))] ∧ Hp κ' w (row b [.int .i64 0, .int .i64 0] 28 :: C)) (fun i => ps.length - i) 0 ⟨Nat.zero_le _, Q, rfl, Fr.to hF ⟨rfl, rfl, rfl, rfl, rfl, rfl, trivial⟩, hH⟩ ?_
          rintro i A w ⟨hi, q, hq, hF, hH⟩
          refine wp_seq ?_
          refine wp_region_lit ?_
          by_cases hlt : i < ps.length
          · refine ev0 [1] tab hF hH rfl (by first | exact trivial | (simp only [All, inK_i64, inK_u64, inK_u32, inK_u8, inK_i32, max_i64, max_u64, IntKind.bits, Int.reduceToNat, Int.reduceAdd, Nat.reducePow, Int.reducePow, and_true, true_and, and_self] <;> omega)) ?_
            intro A w hF hH
            refine wpList_nil ?_
            refine wp_seq ?_
            refine cond_t hF rfl rfl ?_
            refine wp_skip ?_
            refine wp_seq ?_
            refine wp_block ?_
            refine wp_seq ?_
            refine wp_region_lit ?_
            obtain ⟨b0, off0, rfl⟩ := hv.addr (by omega)
            have hpi := hp ps[i] (List.getElem_mem hlt)
            obtain ⟨hS2, hS3⟩ := sumS_range (L := perF ps) (by omega) (by omega) (ps.drop (i + 1)) (fun p h => hp p (List.mem_of_mem_drop h))
            rw [List.length_drop] at hS3
            obtain ⟨hS4, hS5⟩ := sumS_range (L := perF ps) (by omega) (by omega) (ps.drop i) (fun p h => hp p (List.mem_of_mem_drop h))
            rw [List.length_drop] at hS5
            refine evF [] [] (LFok.cons ((hv.mono l).at_ (fun _ _ => rfl) i hlt) (LFok.nil _ _)) [0, 1] tab hF hH rfl (by first | exact trivial | (simp only [All, inK_i64, inK_u64, inK_u32, inK_u8, inK_i32, max_i64, max_u64, IntKind.bits, Int.reduceToNat, Int.reduceAdd, Nat.reducePow, Int.reducePow, and_true, true_and, and_self] <;> omega)) ?_
            intro A w hF hH
            rw [List.drop_eq_getElem_cons hlt] at hq hS4 hS5
            simp only [sumS] at hq hS4 hS5
            generalize ps[i] = p at *
            obtain ⟨E, P⟩ := p
            obtain ⟨hE1, hE2, hP3⟩ := hpi
            simp only at hE1 hE2 hP3 hq hS4 hS5
            have c1 : 0 ≤ perF ps / P := Int.ediv_nonneg (by omega) (by omega)
            have c2 : perF ps / P ≤ perF ps := Int.ediv_le_self _ (by omega)
            have c3 : E * (perF ps / P) ≤ 24 * 1048576 := Int.mul_le_mul (by omega) (by omega) c1 (by omega)
            have c4 : 0 ≤ E * (perF ps / P) := Int.mul_nonneg (by omega) c1
            refine list_act hF rfl ?_
            refine op_alloc hF tab rfl rfl rfl rfl rfl hH ?_
            intro b5 A w hF hH
            refine evM [⟨b5, [.int .i64 0, .int .i64 0], 45⟩] [0] tab hF hH rfl (by first | exact trivial | (simp only [All, inK_i64, inK_u64, inK_u32, inK_u8, inK_i32, max_i64, max_u64, IntKind.bits, Int.reduceToNat, Int.reduceAdd, Nat.reducePow, Int.reducePow, and_true, true_and, and_self] <;> omega)) ?_
            intro A w hF hH
            refine wpList_nil ?_
            refine dr_all (by kernel_rfl) [] [row b5 [.int .i64 E, .int .i64 P] 45] [(0, 0), (1, 0), (2, 1), (3, 0), (4, 0), (5, 3), (6, 0), (7, 0), (8, 0), (9, 0)] tab (LFok.cons (At.own (off := 0) (vs := [.int .i64 E]) 0 rfl (own1 rfl)) (LFok.cons (At.own (off := 1) (vs := [.int .i64 P]) 0 rfl (own1 rfl)) (LFok.nil _ _))) (by kernel_rfl) rfl hF hH (by kernel_rfl) (by kernel_rfl) rfl (by first | exact trivial | (simp only [All, inK_i64, inK_u64, inK_u32, inK_u8, inK_i32, max_i64, max_u64, IntKind.bits, Int.reduceToNat, Int.reduceAdd, Nat.reducePow, Int.reducePow, and_true, true_and, and_self] <;> omega)) ?_
            intro A w hF hH
            refine wp_region_lit ?_
            refine ev0 [0, 0] tab hF hH rfl (by first | exact trivial | (simp only [All, inK_i64, inK_u64, inK_u32, inK_u8, inK_i32, max_i64, max_u64, IntKind.bits, Int.reduceToNat, Int.reduceAdd, Nat.reducePow, Int.reducePow, and_true, true_and, and_self] <;> omega)) ?_
            intro A w hF hH
            refine wpList_nil ?_
            refine ⟨i + 1, ⟨by omega, q + E * (perF ps / P), by omega, Fr.to hF ⟨rfl, rfl, rfl, rfl, rfl, rfl, trivial⟩, hH.tail⟩, by omega⟩
          · skip
            refine ev0 [2] tab hF hH rfl (by first | exact trivial | (simp only [All, inK_i64, inK_u64, inK_u32, inK_u8, inK_i32, max_i64, max_u64, IntKind.bits, Int.reduceToNat, Int.reduceAdd, Nat.reducePow, Int.reducePow, and_true, true_and, and_self] <;> omega)) ?_
            intro A w hF hH
            refine wpList_nil ?_
            refine wp_seq ?_
            refine cond_f hF rfl rfl ?_
            refine wp_exit ?_
            repeat (first | refine then_exit ?_ | refine ng_exit ?_ | refine blk_exit ?_ | refine blk_exit_ne rfl ?_)
            refine wp_seq ?_
            refine wp_region_lit ?_
            rw [List.drop_eq_nil_of_le (by omega)] at hq
            simp only [sumS, Int.add_zero] at hq
            refine evM [⟨b, [.int .i64 0, .int .i64 0], 28⟩] [0, 0, 0, 0, 0, 0, 0] tab hF hH rfl (by first | exact trivial | (simp only [All, inK_i64, inK_u64, inK_u32, inK_u8, inK_i32, max_i64, max_u64, IntKind.bits, Int.reduceToNat, Int.reduceAdd, Nat.reducePow, Int.reducePow, and_true, true_and, and_self] <;> omega)) ?_
            intro A w hF hH
            refine wpList_nil ?_
            refine wp_ret ?_
            repeat (first | refine then_ret ?_ | refine blk_ret ?_ | refine ng_ret ?_)
            refine ret (M := [⟨b, [.int .i64 (min q (perF ps)), .int .i64 (perF ps)], 28⟩]) (hs := [0]) tab hF hH rfl (by first | exact trivial | (simp only [All, inK_i64, inK_u64, inK_u32, inK_u8, inK_i32, max_i64, max_u64, IntKind.bits, Int.reduceToNat, Int.reduceAdd, Nat.reducePow, Int.reducePow, and_true, true_and, and_self] <;> omega)) ?_
            rw [show weightF ps = (min q (perF ps), perF ps, 0) from by simp [weightF, h0, h1, h2, hq, hQ]]
            exact ⟨rfl, (hH.lower l).tail⟩
end
end Go.Proofs.Try
