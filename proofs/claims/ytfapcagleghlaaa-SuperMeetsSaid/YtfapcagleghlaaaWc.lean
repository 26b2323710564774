/- SuperMeets, walked. -/
import Derived.Test.YtfapcagleghlaaaWb
set_option linter.all false
namespace Go.Proofs.Try
open Go Go.Sep

theorem WW.ok {ps : List (Int × Int)} {E L : Int} (h : WW ps E L) : WOk (E, L) := ⟨h.E1, h.EL, h.L2⟩
set_option maxRecDepth 20000 in
theorem meets_walk {κ : K} {w : World} {v v2 : Value} {l : List (Int × Int)} {gs : List Int} (hv : Rd κ [] 2 wenc v l) (hlen : l.length ≤ 9223372036854775807) (hr : ∀ p ∈ l, InI p.1 ∧ InI p.2)
    (hg : Rd κ [] 1 e64 v2 gs) (hglen : gs.length ≤ 9223372036854775807) (hgr : ∀ x ∈ gs, InI x) (hH : Hp κ w []) :
    Calls Try.prog 3 #[v, v2] w (fun e w' => e = .returned (.bool true) ∧ Hp κ w' []) := by
  obtain ⟨hp, hl8⟩ := madeF_ok l
  obtain ⟨G0, gcap, rfl, hgcap⟩ := hg.form
  refine enter (args := [v, .slice G0 gs.length gcap]) Try.func3 rfl rfl ?_
  intro A hF
  refine wp_seq ?_
  refine wp_region_lit ?_
  refine ev0 [0] tab hF hH rfl (by first | exact trivial | (simp only [All, inK_i64, inK_u64, inK_u32, inK_u8, inK_i32, max_i64, max_u64, IntKind.bits, Int.reduceToNat, Int.reduceAdd, Nat.reducePow, Int.reducePow, and_true, true_and, and_self] <;> omega)) ?_
  intro A w hF hH
  refine wpList_nil ?_
  refine wp_seq ?_
  refine wp_region_lit ?_
  refine list_act hF rfl ?_
  refine op_call hF rfl rfl rfl rfl rfl rfl isF8 (awake_calls hH) ?_
  rintro e w ⟨rfl, hH⟩
  refine ⟨_, rfl, fun A hF => ?_⟩
  refine ev0 [0] tab hF hH rfl (by first | exact trivial | (simp only [All, inK_i64, inK_u64, inK_u32, inK_u8, inK_i32, max_i64, max_u64, IntKind.bits, Int.reduceToNat, Int.reduceAdd, Nat.reducePow, Int.reducePow, and_true, true_and, and_self] <;> omega)) ?_
  intro A w hF hH
  refine wpList_nil ?_
  refine wp_seq ?_
  refine wp_region_lit ?_
  refine ev0 [0] tab hF hH rfl (by first | exact trivial | (simp only [All, inK_i64, inK_u64, inK_u32, inK_u8, inK_i32, max_i64, max_u64, IntKind.bits, Int.reduceToNat, Int.reduceAdd, Nat.reducePow, Int.reducePow, and_true, true_and, and_self] <;> omega)) ?_
  intro A w hF hH
  refine list_act hF rfl ?_
  refine op_call hF rfl rfl rfl rfl rfl rfl isF9 (made_calls hv hlen hr hH) ?_
  rintro e w ⟨κ1, mv, l1, rfl, hmv, hH⟩
  refine ⟨_, rfl, fun A hF => ?_⟩
  refine ev0 [0] tab hF hH rfl (by first | exact trivial | (simp only [All, inK_i64, inK_u64, inK_u32, inK_u8, inK_i32, max_i64, max_u64, IntKind.bits, Int.reduceToNat, Int.reduceAdd, Nat.reducePow, Int.reducePow, and_true, true_and, and_self] <;> omega)) ?_
  intro A w hF hH
  refine wpList_nil ?_
  refine wp_seq ?_
  refine wp_region_lit ?_
  generalize madeF l = ps at *
  refine ev0 [0] tab hF hH rfl (by first | exact trivial | (simp only [All, inK_i64, inK_u64, inK_u32, inK_u8, inK_i32, max_i64, max_u64, IntKind.bits, Int.reduceToNat, Int.reduceAdd, Nat.reducePow, Int.reducePow, and_true, true_and, and_self] <;> omega)) ?_
  intro A w hF hH
  refine list_act hF rfl ?_
  refine op_call hF rfl rfl rfl rfl rfl rfl isF10 (sweight_calls hmv hp hl8 hH) ?_
  rintro e w ⟨rfl, hH⟩
  refine ⟨_, rfl, fun A hF => ?_⟩
  refine ev0 [0, 0, 0] tab hF hH rfl (by first | exact trivial | (simp only [All, inK_i64, inK_u64, inK_u32, inK_u8, inK_i32, max_i64, max_u64, IntKind.bits, Int.reduceToNat, Int.reduceAdd, Nat.reducePow, Int.reducePow, and_true, true_and, and_self] <;> omega)) ?_
  intro A w hF hH
  refine list_act hF rfl ?_
  refine op_alloc hF tab rfl rfl rfl rfl rfl hH ?_
  intro b7 A w hF hH
  refine evM [⟨b7, [.int .i64 0, .int .i64 0], 28⟩] [0, 0] tab hF hH rfl (by first | exact trivial | (simp only [All, inK_i64, inK_u64, inK_u32, inK_u8, inK_i32, max_i64, max_u64, IntKind.bits, Int.reduceToNat, Int.reduceAdd, Nat.reducePow, Int.reducePow, and_true, true_and, and_self] <;> omega)) ?_
  intro A w hF hH
  refine wpList_nil ?_
  refine wp_seq ?_
  refine wp_seq ?_
  refine wp_region_lit ?_
  by_cases he : (weightF ps).2.2 = 0
  · refine ev0 [0, 2] tab hF hH rfl (by first | exact trivial | (simp only [All, inK_i64, inK_u64, inK_u32, inK_u8, inK_i32, max_i64, max_u64, IntKind.bits, Int.reduceToNat, Int.reduceAdd, Nat.reducePow, Int.reducePow, and_true, true_and, and_self] <;> omega)) ?_
    intro A w hF hH
    refine wpList_nil ?_
    refine cond_f hF rfl rfl ?_
    refine wp_skip ?_
    refine wp_seq ?_
    refine wp_region_lit ?_
    have hW := WW.of hp he
    generalize (weightF ps).1 = E at *
    generalize (weightF ps).2.1 = L at *
    have hE1 := hW.E1
    have hEL := hW.EL
    have hL2 := hW.L2
    refine ev0 [0] tab hF hH rfl (by first | exact trivial | (simp only [All, inK_i64, inK_u64, inK_u32, inK_u8, inK_i32, max_i64, max_u64, IntKind.bits, Int.reduceToNat, Int.reduceAdd, Nat.reducePow, Int.reducePow, and_true, true_and, and_self] <;> omega)) ?_
    intro A w hF hH
    refine list_act hF rfl ?_
    refine op_call hF rfl rfl rfl rfl rfl rfl isF11 (new_calls (at_ := 0) hmv hp hl8 he (by omega) (by omega) hH) ?_
    rintro e w ⟨s, rfl, hH⟩
    refine ⟨_, rfl, fun A hF => ?_⟩
    refine ev0 [0] tab hF hH rfl (by first | exact trivial | (simp only [All, inK_i64, inK_u64, inK_u32, inK_u8, inK_i32, max_i64, max_u64, IntKind.bits, Int.reduceToNat, Int.reduceAdd, Nat.reducePow, Int.reducePow, and_true, true_and, and_self] <;> omega)) ?_
    intro A w hF hH
    refine wpList_nil ?_
    refine wp_seq ?_
    refine wp_seq ?_
    refine wp_region_lit ?_
    refine ev0 [0, 0] tab hF hH rfl (by first | exact trivial | (simp only [All, inK_i64, inK_u64, inK_u32, inK_u8, inK_i32, max_i64, max_u64, IntKind.bits, Int.reduceToNat, Int.reduceAdd, Nat.reducePow, Int.reducePow, and_true, true_and, and_self] <;> omega)) ?_
    intro A w hF hH
    refine wpList_nil ?_
    refine cond_f hF rfl rfl ?_
    refine wp_skip ?_
    refine wp_seq ?_
    refine wp_region_lit ?_
    refine ev0 [0] tab hF hH rfl (by first | exact trivial | (simp only [All, inK_i64, inK_u64, inK_u32, inK_u8, inK_i32, max_i64, max_u64, IntKind.bits, Int.reduceToNat, Int.reduceAdd, Nat.reducePow, Int.reducePow, and_true, true_and, and_self] <;> omega)) ?_
    intro A w hF hH
    refine wpList_nil ?_
    refine wp_seq ?_
    refine wp_seq ?_
    refine wp_region_lit ?_
    refine ev0 [0] tab hF hH rfl (by first | exact trivial | (simp only [All, inK_i64, inK_u64, inK_u32, inK_u8, inK_i32, max_i64, max_u64, IntKind.bits, Int.reduceToNat, Int.reduceAdd, Nat.reducePow, Int.reducePow, and_true, true_and, and_self] <;> omega)) ?_
    intro A w hF hH
    refine wpList_nil ?_
    refine wp_block ?_
    have hm0 := Meets.new hW
    refine loop_j (fun (j : Nat) A w => j ≤ 400 ∧ ∃ (last : Int), ∃ S : Sup, Meets ps E L (j + 1) last S ∧ Fr 101 A [(11, .int .i64 (j + 1)), (10, .int .i64 last), (9, .pointer (some ⟨s, 0, none⟩)), (7, .pointer (some ⟨b7, 0, none⟩)), (5, .bool true), (1, .slice G0 gs.length gcap)] ∧ Hp κ1 w (sup s S :: row b7 [.int .i64 E, .int .i64 L] 28 :: [])) (fun j => 400 - j) 0 ⟨Nat.zero_le _, -1, _, hm0, Fr.to hF ⟨rfl, rfl, rfl, rfl, rfl, rfl, trivial⟩, hH⟩ ?_
    rintro j A w ⟨hj, last, S, hm, hF, hH⟩
    have hl0 := hm.l0
    have hl1 := hm.l1
    have hl2 := hm.l2
    have hsl := hm.slast
    have hlen8 : S.ps.length ≤ 8 := by rw [hm.len]; exact hl8
    have hpf := hm.fit.pfit (by omega)
    have hsi := hm.fit.si
    have hs0 := hm.fit.s0
    have hi0 := hm.fit.i0
    have hmis := hm.mis
    refine wp_seq ?_
    refine wp_seq ?_
    refine wp_region_lit ?_
    by_cases hlt : j < 400
    · refine ev0 [0, 1] tab hF hH rfl (by first | exact trivial | (simp only [All, inK_i64, inK_u64, inK_u32, inK_u8, inK_i32, max_i64, max_u64, IntKind.bits, Int.reduceToNat, Int.reduceAdd, Nat.reducePow, Int.reducePow, and_true, true_and, and_self] <;> omega)) ?_
      intro A w hF hH
      refine wpList_nil ?_
      refine cond_t hF rfl rfl ?_
      refine wp_skip ?_
      refine wp_seq ?_
      refine wp_block ?_
      refine wp_seq ?_
      refine wp_region_lit ?_
      have hH := hH.swap
      refine evM [⟨b7, [.int .i64 E, .int .i64 L], 28⟩] [0, 0] tab hF hH rfl (by first | exact trivial | (simp only [All, inK_i64, inK_u64, inK_u32, inK_u8, inK_i32, max_i64, max_u64, IntKind.bits, Int.reduceToNat, Int.reduceAdd, Nat.reducePow, Int.reducePow, and_true, true_and, and_self] <;> omega)) ?_
      intro A w hF hH
      refine list_act hF rfl ?_
      refine op_call hF rfl rfl rfl rfl rfl rfl isF12 (rsub_calls (i := j + 1) hW.ok (by omega) (by omega) hH) ?_
      rintro e w ⟨bt, g, rfl, hH⟩
      refine ⟨_, rfl, fun A hF => ?_⟩
      have hroom := win_room hE1 hEL (i := j + 1) (by omega)
      have hr0 : 0 ≤ ((j : Int) + 1 - 1) * L / E := Int.ediv_nonneg (Int.mul_nonneg (by omega) (by omega)) (by omega)
      generalize hD : upF (((j : Int) + 1) * L) E = D at *
      generalize hR : ((j : Int) + 1 - 1) * L / E = R at *
      refine ev0 [0, 0, 0] tab hF hH rfl (by first | exact trivial | (simp only [All, inK_i64, inK_u64, inK_u32, inK_u8, inK_i32, max_i64, max_u64, IntKind.bits, Int.reduceToNat, Int.reduceAdd, Nat.reducePow, Int.reducePow, and_true, true_and, and_self] <;> omega)) ?_
      intro A w hF hH
      refine list_act hF rfl ?_
      refine op_alloc hF tab rfl rfl rfl rfl rfl hH ?_
      intro b12 A w hF hH
      refine evM [⟨b12, [.int .i64 0, .int .i64 0, .int .i64 0, .int .i64 0, .int .i64 0], 35⟩] [0, 0] tab hF hH rfl (by first | exact trivial | (simp only [All, inK_i64, inK_u64, inK_u32, inK_u8, inK_i32, max_i64, max_u64, IntKind.bits, Int.reduceToNat, Int.reduceAdd, Nat.reducePow, Int.reducePow, and_true, true_and, and_self] <;> omega)) ?_
      intro A w hF hH
      refine wpList_nil ?_
      refine wp_seq ?_
      refine wp_seq ?_
      refine wp_region_lit ?_
      by_cases hD2 : 200 < D
      · refine evM [⟨b12, [.int .i64 (j + 1), .int .i64 R, .int .i64 D, .int .i64 bt, .int .i64 g], 35⟩] [0, 0, 1] tab hF hH rfl (by first | exact trivial | (simp only [All, inK_i64, inK_u64, inK_u32, inK_u8, inK_i32, max_i64, max_u64, IntKind.bits, Int.reduceToNat, Int.reduceAdd, Nat.reducePow, Int.reducePow, and_true, true_and, and_self] <;> omega)) ?_
        intro A w hF hH
        refine wpList_nil ?_
        refine cond_t hF rfl rfl ?_
        refine wp_exit ?_
        repeat (first | refine then_exit ?_ | refine ng_exit ?_ | refine blk_exit ?_ | refine blk_exit_ne rfl ?_)
        refine wp_seq ?_
        refine wp_region_lit ?_
        have hH := hH.tail.swap
        refine ev0 [0, 0, 0, 0] tab hF hH rfl (by first | exact trivial | (simp only [All, inK_i64, inK_u64, inK_u32, inK_u8, inK_i32, max_i64, max_u64, IntKind.bits, Int.reduceToNat, Int.reduceAdd, Nat.reducePow, Int.reducePow, and_true, true_and, and_self] <;> omega)) ?_
        intro A w hF hH
        refine list_act hF rfl ?_
        refine op_call hF rfl rfl rfl rfl rfl rfl isF13 (missed_calls last hpf hlen8 hH) ?_
        rintro e w ⟨rfl, hH⟩
        refine ⟨_, rfl, fun A hF => ?_⟩
        rw [hmis] at hF
        refine ev0 [1, 0, 0] tab hF hH rfl (by first | exact trivial | (simp only [All, inK_i64, inK_u64, inK_u32, inK_u8, inK_i32, max_i64, max_u64, IntKind.bits, Int.reduceToNat, Int.reduceAdd, Nat.reducePow, Int.reducePow, and_true, true_and, and_self] <;> omega)) ?_
        intro A w hF hH
        refine wpList_nil ?_
        refine wp_ret ?_
        repeat (first | refine then_ret ?_ | refine blk_ret ?_ | refine ng_ret ?_)
        refine ret (M := []) (hs := []) tab hF hH rfl (by first | exact trivial | (simp only [All, inK_i64, inK_u64, inK_u32, inK_u8, inK_i32, max_i64, max_u64, IntKind.bits, Int.reduceToNat, Int.reduceAdd, Nat.reducePow, Int.reducePow, and_true, true_and, and_self] <;> omega)) ?_
        exact ⟨rfl, (hH.lower l1).tail.tail⟩
      · skip
        refine evM [⟨b12, [.int .i64 (j + 1), .int .i64 R, .int .i64 D, .int .i64 bt, .int .i64 g], 35⟩] [0, 0, 2] tab hF hH rfl (by first | exact trivial | (simp only [All, inK_i64, inK_u64, inK_u32, inK_u8, inK_i32, max_i64, max_u64, IntKind.bits, Int.reduceToNat, Int.reduceAdd, Nat.reducePow, Int.reducePow, and_true, true_and, and_self] <;> omega)) ?_
        intro A w hF hH
        refine wpList_nil ?_
        refine cond_f hF rfl rfl ?_
        refine wp_skip ?_
        refine wp_seq ?_
        refine wp_region_lit ?_
        refine evM [⟨b12, [.int .i64 (j + 1), .int .i64 R, .int .i64 D, .int .i64 bt, .int .i64 g], 35⟩] [0, 0, 0] tab hF hH rfl (by first | exact trivial | (simp only [All, inK_i64, inK_u64, inK_u32, inK_u8, inK_i32, max_i64, max_u64, IntKind.bits, Int.reduceToNat, Int.reduceAdd, Nat.reducePow, Int.reducePow, and_true, true_and, and_self] <;> omega)) ?_
        intro A w hF hH
        refine wpList_nil ?_
        refine wp_seq ?_
        refine wp_seq ?_
        refine wp_region_lit ?_
        --BEGIN
        by_cases hRl : R ≤ last
        · refine ev0 [0, 0, 1] tab hF hH rfl (by first | exact trivial | (simp only [All, inK_i64, inK_u64, inK_u32, inK_u8, inK_i32, max_i64, max_u64, IntKind.bits, Int.reduceToNat, Int.reduceAdd, Nat.reducePow, Int.reducePow, and_true, true_and, and_self] <;> omega)) ?_
          intro A w hF hH
          refine wpList_nil ?_
          refine cond_t hF rfl rfl ?_
          refine wp_region_lit ?_
          refine ev0 [0, 0, 0] tab hF hH rfl (by first | exact trivial | (simp only [All, inK_i64, inK_u64, inK_u32, inK_u8, inK_i32, max_i64, max_u64, IntKind.bits, Int.reduceToNat, Int.reduceAdd, Nat.reducePow, Int.reducePow, and_true, true_and, and_self] <;> omega)) ?_
          intro A w hF hH
          refine wpList_nil ?_
          refine wp_seq ?_
          refine wp_region_lit ?_
          obtain ⟨F, hFe⟩ : ∃ F, F = last + 1 := ⟨_, rfl⟩
          rw [← hFe] at hF
          refine evM [⟨b12, [.int .i64 (j + 1), .int .i64 R, .int .i64 D, .int .i64 bt, .int .i64 g], 35⟩] [0, 0, 0, 0, 0] tab hF hH rfl (by first | exact trivial | (simp only [All, inK_i64, inK_u64, inK_u32, inK_u8, inK_i32, max_i64, max_u64, IntKind.bits, Int.reduceToNat, Int.reduceAdd, Nat.reducePow, Int.reducePow, and_true, true_and, and_self] <;> omega)) ?_
          intro A w hF hH
          refine wpList_nil ?_
          refine wp_seq ?_
          refine wp_seq ?_
          refine wp_region_lit ?_
          refine ev0 [0, 2] tab hF hH rfl (by first | exact trivial | (simp only [All, inK_i64, inK_u64, inK_u32, inK_u8, inK_i32, max_i64, max_u64, IntKind.bits, Int.reduceToNat, Int.reduceAdd, Nat.reducePow, Int.reducePow, and_true, true_and, and_self] <;> omega)) ?_
          intro A w hF hH
          refine wpList_nil ?_
          refine cond_f hF rfl rfl ?_
          refine wp_skip ?_
          refine wp_seq ?_
          refine wp_region_lit ?_
          have hH := hH.tail.swap
          refine ev0 [0] tab hF hH rfl (by first | exact trivial | (simp only [All, inK_i64, inK_u64, inK_u32, inK_u8, inK_i32, max_i64, max_u64, IntKind.bits, Int.reduceToNat, Int.reduceAdd, Nat.reducePow, Int.reducePow, and_true, true_and, and_self] <;> omega)) ?_
          intro A w hF hH
          refine wpList_nil ?_
          refine wp_seq ?_
          refine wp_seq ?_
          refine wp_region_lit ?_
          by_cases hgl : 0 < gs.length
          · refine ev0 [0, 0, 1] tab hF hH rfl (by first | exact trivial | (simp only [All, inK_i64, inK_u64, inK_u32, inK_u8, inK_i32, max_i64, max_u64, IntKind.bits, Int.reduceToNat, Int.reduceAdd, Nat.reducePow, Int.reducePow, and_true, true_and, and_self] <;> omega)) ?_
            intro A w hF hH
            refine wpList_nil ?_
            refine cond_t hF rfl rfl ?_
            refine wp_region_lit ?_
            obtain ⟨b0, off0, rfl⟩ := hg.addr hgl
            have hidx : ((j : Int) + 1) % (gs.length : Int) = (((j + 1) % gs.length : Nat) : Int) := by rw [Int.natCast_emod]; rfl
            have hil : (j + 1) % gs.length < gs.length := Nat.mod_lt _ hgl
            have hat := (hg.mono l1).at_ (fun _ _ => rfl) _ hil
            generalize gs[(j + 1) % gs.length] = x at *
            refine ev0 [0, 0, 0, 0, 0] tab hF hH rfl (by first | exact trivial | (simp only [All, inK_i64, inK_u64, inK_u32, inK_u8, inK_i32, max_i64, max_u64, IntKind.bits, Int.reduceToNat, Int.reduceAdd, Nat.reducePow, Int.reducePow, and_true, true_and, and_self] <;> omega)) ?_
            intro A w hF hH
            simp only [hidx] at hF
            generalize (j + 1) % gs.length = ix at *
            refine evF [] [] (LFok.cons hat (LFok.nil _ _)) [0, 1, 0] tab hF hH rfl (by first | exact trivial | (simp only [All, inK_i64, inK_u64, inK_u32, inK_u8, inK_i32, max_i64, max_u64, IntKind.bits, Int.reduceToNat, Int.reduceAdd, Nat.reducePow, Int.reducePow, and_true, true_and, and_self] <;> omega)) ?_
            intro A w hF hH
            refine wpList_nil ?_
            refine wp_seq ?_
            refine wp_region_lit ?_
            have hx := tmod_mod x (p := D - F) (by omega)
            have hx0 := Int.emod_nonneg x (b := D - F) (by omega)
            have hx1 := Int.emod_lt_of_pos x (b := D - F) (by omega)
            refine ev0 [0, 0, 0, 1, 0, 0, 0, 0, 0, 0] tab hF hH rfl (by first | exact trivial | (simp only [All, inK_i64, inK_u64, inK_u32, inK_u8, inK_i32, max_i64, max_u64, IntKind.bits, Int.reduceToNat, Int.reduceAdd, Nat.reducePow, Int.reducePow, and_true, true_and, and_self] <;> omega)) ?_
            intro A w hF hH
            simp only [hx.1] at hF
            refine wpList_nil ?_
            refine wp_seq ?_
            refine wp_seq ?_
            refine wp_region_lit ?_
            generalize ha : F + x % (D - F) = a at *
            have hstep := hm.step hW (by omega) (a := a) (by omega) (by rw [hR]; omega) (by rw [hD]; omega) (by omega)
            have hmis2 : ∀ t : Int, last + 1 ≤ t → t ≤ a → missedF S t = 0 := fun t h1 h2 => missedF_zero hm.fit.inv (hm.missed hW (by omega) h1 (by rw [hD]; omega))
            refine ev0 [0, 0, 0] tab hF hH rfl (by first | exact trivial | (simp only [All, inK_i64, inK_u64, inK_u32, inK_u8, inK_i32, max_i64, max_u64, IntKind.bits, Int.reduceToNat, Int.reduceAdd, Nat.reducePow, Int.reducePow, and_true, true_and, and_self] <;> omega)) ?_
            intro A w hF hH
            refine wpList_nil ?_
            refine wp_block ?_
            refine loop_j (fun (t : Int) A w => last + 1 ≤ t ∧ t ≤ a + 1 ∧ Fr 101 A [(18, .int .i64 t), (17, .int .i64 a), (11, .int .i64 (j + 1)), (10, .int .i64 last), (9, .pointer (some ⟨s, 0, none⟩)), (7, .pointer (some ⟨b7, 0, none⟩)), (5, .bool true), (1, .slice (some ⟨b0, off0, none⟩) gs.length gcap)] ∧ Hp κ1 w (sup s S :: row b7 [.int .i64 E, .int .i64 L] 28 :: [])) (fun t => (a + 1 - t).toNat) (last + 1) ⟨Int.le_refl _, by omega, Fr.to hF ⟨rfl, rfl, rfl, rfl, rfl, rfl, rfl, rfl, trivial⟩, hH⟩ ?_
            rintro t A w ⟨ht0, ht1, hF, hH⟩
            refine wp_seq ?_
            refine wp_seq ?_
            refine wp_region_lit ?_
            by_cases hta : t ≤ a
            · refine ev0 [0, 0, 1] tab hF hH rfl (by first | exact trivial | (simp only [All, inK_i64, inK_u64, inK_u32, inK_u8, inK_i32, max_i64, max_u64, IntKind.bits, Int.reduceToNat, Int.reduceAdd, Nat.reducePow, Int.reducePow, and_true, true_and, and_self] <;> omega)) ?_
              intro A w hF hH
              refine wpList_nil ?_
              refine cond_t hF rfl rfl ?_
              refine wp_skip ?_
              refine wp_seq ?_
              refine wp_block ?_
              refine wp_seq ?_
              refine wp_region_lit ?_
              refine ev0 [0, 0] tab hF hH rfl (by first | exact trivial | (simp only [All, inK_i64, inK_u64, inK_u32, inK_u8, inK_i32, max_i64, max_u64, IntKind.bits, Int.reduceToNat, Int.reduceAdd, Nat.reducePow, Int.reducePow, and_true, true_and, and_self] <;> omega)) ?_
              intro A w hF hH
              refine list_act hF rfl ?_
              refine op_call hF rfl rfl rfl rfl rfl rfl isF13 (missed_calls t hpf hlen8 hH) ?_
              rintro e w ⟨rfl, hH⟩
              refine ⟨_, rfl, fun A hF => ?_⟩
              rw [hmis2 t ht0 hta] at hF
              refine ev0 [2] tab hF hH rfl (by first | exact trivial | (simp only [All, inK_i64, inK_u64, inK_u32, inK_u8, inK_i32, max_i64, max_u64, IntKind.bits, Int.reduceToNat, Int.reduceAdd, Nat.reducePow, Int.reducePow, and_true, true_and, and_self] <;> omega)) ?_
              intro A w hF hH
              refine wpList_nil ?_
              refine cond_f hF rfl rfl ?_
              refine wp_skip ?_
              refine wp_region_lit ?_
              refine ev0 [0, 0, 0] tab hF hH rfl (by first | exact trivial | (simp only [All, inK_i64, inK_u64, inK_u32, inK_u8, inK_i32, max_i64, max_u64, IntKind.bits, Int.reduceToNat, Int.reduceAdd, Nat.reducePow, Int.reducePow, and_true, true_and, and_self] <;> omega)) ?_
              intro A w hF hH
              refine wpList_nil ?_
              exact ⟨t + 1, ⟨by omega, by omega, Fr.to hF ⟨rfl, rfl, rfl, rfl, rfl, rfl, rfl, rfl, trivial⟩, hH⟩, by omega⟩
            · skip
              refine ev0 [0, 0, 2] tab hF hH rfl (by first | exact trivial | (simp only [All, inK_i64, inK_u64, inK_u32, inK_u8, inK_i32, max_i64, max_u64, IntKind.bits, Int.reduceToNat, Int.reduceAdd, Nat.reducePow, Int.reducePow, and_true, true_and, and_self] <;> omega)) ?_
              intro A w hF hH
              refine wpList_nil ?_
              refine cond_f hF rfl rfl ?_
              refine wp_exit ?_
              repeat (first | refine then_exit ?_ | refine ng_exit ?_ | refine blk_exit ?_ | refine blk_exit_ne rfl ?_)
              refine wp_seq ?_
              refine wp_region_lit ?_
              refine ev0 [0, 0] tab hF hH rfl (by first | exact trivial | (simp only [All, inK_i64, inK_u64, inK_u32, inK_u8, inK_i32, max_i64, max_u64, IntKind.bits, Int.reduceToNat, Int.reduceAdd, Nat.reducePow, Int.reducePow, and_true, true_and, and_self] <;> omega)) ?_
              intro A w hF hH
              refine list_act hF rfl ?_
              refine op_call hF rfl rfl rfl rfl rfl rfl isF14 (grant_calls a hpf hlen8 ⟨hs0, by omega⟩ ⟨hi0, by omega⟩ hH) ?_
              rintro e w ⟨rfl, hH⟩
              refine ⟨_, rfl, fun A hF => ?_⟩
              refine wpList_nil ?_
              refine wp_region_lit ?_
              refine ev0 [0, 0] tab hF hH rfl (by first | exact trivial | (simp only [All, inK_i64, inK_u64, inK_u32, inK_u8, inK_i32, max_i64, max_u64, IntKind.bits, Int.reduceToNat, Int.reduceAdd, Nat.reducePow, Int.reducePow, and_true, true_and, and_self] <;> omega)) ?_
              intro A w hF hH
              refine wpList_nil ?_
              refine wp_region_lit ?_
              refine ev0 [0, 0, 0] tab hF hH rfl (by first | exact trivial | (simp only [All, inK_i64, inK_u64, inK_u32, inK_u8, inK_i32, max_i64, max_u64, IntKind.bits, Int.reduceToNat, Int.reduceAdd, Nat.reducePow, Int.reducePow, and_true, true_and, and_self] <;> omega)) ?_
              intro A w hF hH
              refine wpList_nil ?_
              exact ⟨j + 1, ⟨by omega, a, _, hstep, Fr.to hF ⟨rfl, rfl, rfl, rfl, rfl, rfl, trivial⟩, hH⟩, by omega⟩
          · skip
            refine ev0 [0, 0, 2] tab hF hH rfl (by first | exact trivial | (simp only [All, inK_i64, inK_u64, inK_u32, inK_u8, inK_i32, max_i64, max_u64, IntKind.bits, Int.reduceToNat, Int.reduceAdd, Nat.reducePow, Int.reducePow, and_true, true_and, and_self] <;> omega)) ?_
            intro A w hF hH
            refine wpList_nil ?_
            refine cond_f hF rfl rfl ?_
            refine wp_skip ?_
            refine wp_seq ?_
            refine wp_region_lit ?_
            obtain ⟨x, hx⟩ : ∃ x : Int, x = 0 := ⟨_, rfl⟩
            rw [← hx] at hF
            have hx := tmod_mod x (p := D - F) (by omega)
            have hx0 := Int.emod_nonneg x (b := D - F) (by omega)
            have hx1 := Int.emod_lt_of_pos x (b := D - F) (by omega)
            refine ev0 [0, 0, 0, 1, 0, 0, 0, 0, 0, 0] tab hF hH rfl (by first | exact trivial | (simp only [All, inK_i64, inK_u64, inK_u32, inK_u8, inK_i32, max_i64, max_u64, IntKind.bits, Int.reduceToNat, Int.reduceAdd, Nat.reducePow, Int.reducePow, and_true, true_and, and_self] <;> omega)) ?_
            intro A w hF hH
            simp only [hx.1] at hF
            refine wpList_nil ?_
            refine wp_seq ?_
            refine wp_seq ?_
            refine wp_region_lit ?_
            generalize ha : F + x % (D - F) = a at *
            have hstep := hm.step hW (by omega) (a := a) (by omega) (by rw [hR]; omega) (by rw [hD]; omega) (by omega)
            have hmis2 : ∀ t : Int, last + 1 ≤ t → t ≤ a → missedF S t = 0 := fun t h1 h2 => missedF_zero hm.fit.inv (hm.missed hW (by omega) h1 (by rw [hD]; omega))
            refine ev0 [0, 0, 0] tab hF hH rfl (by first | exact trivial | (simp only [All, inK_i64, inK_u64, inK_u32, inK_u8, inK_i32, max_i64, max_u64, IntKind.bits, Int.reduceToNat, Int.reduceAdd, Nat.reducePow, Int.reducePow, and_true, true_and, and_self] <;> omega)) ?_
            intro A w hF hH
            refine wpList_nil ?_
            refine wp_block ?_
            refine loop_j (fun (t : Int) A w => last + 1 ≤ t ∧ t ≤ a + 1 ∧ Fr 101 A [(18, .int .i64 t), (17, .int .i64 a), (11, .int .i64 (j + 1)), (10, .int .i64 last), (9, .pointer (some ⟨s, 0, none⟩)), (7, .pointer (some ⟨b7, 0, none⟩)), (5, .bool true), (1, .slice G0 gs.length gcap)] ∧ Hp κ1 w (sup s S :: row b7 [.int .i64 E, .int .i64 L] 28 :: [])) (fun t => (a + 1 - t).toNat) (last + 1) ⟨Int.le_refl _, by omega, Fr.to hF ⟨rfl, rfl, rfl, rfl, rfl, rfl, rfl, rfl, trivial⟩, hH⟩ ?_
            rintro t A w ⟨ht0, ht1, hF, hH⟩
            refine wp_seq ?_
            refine wp_seq ?_
            refine wp_region_lit ?_
            by_cases hta : t ≤ a
            · refine ev0 [0, 0, 1] tab hF hH rfl (by first | exact trivial | (simp only [All, inK_i64, inK_u64, inK_u32, inK_u8, inK_i32, max_i64, max_u64, IntKind.bits, Int.reduceToNat, Int.reduceAdd, Nat.reducePow, Int.reducePow, and_true, true_and, and_self] <;> omega)) ?_
              intro A w hF hH
              refine wpList_nil ?_
              refine cond_t hF rfl rfl ?_
              refine wp_skip ?_
              refine wp_seq ?_
              refine wp_block ?_
              refine wp_seq ?_
              refine wp_region_lit ?_
              refine ev0 [0, 0] tab hF hH rfl (by first | exact trivial | (simp only [All, inK_i64, inK_u64, inK_u32, inK_u8, inK_i32, max_i64, max_u64, IntKind.bits, Int.reduceToNat, Int.reduceAdd, Nat.reducePow, Int.reducePow, and_true, true_and, and_self] <;> omega)) ?_
              intro A w hF hH
              refine list_act hF rfl ?_
              refine op_call hF rfl rfl rfl rfl rfl rfl isF13 (missed_calls t hpf hlen8 hH) ?_
              rintro e w ⟨rfl, hH⟩
              refine ⟨_, rfl, fun A hF => ?_⟩
              rw [hmis2 t ht0 hta] at hF
              refine ev0 [2] tab hF hH rfl (by first | exact trivial | (simp only [All, inK_i64, inK_u64, inK_u32, inK_u8, inK_i32, max_i64, max_u64, IntKind.bits, Int.reduceToNat, Int.reduceAdd, Nat.reducePow, Int.reducePow, and_true, true_and, and_self] <;> omega)) ?_
              intro A w hF hH
              refine wpList_nil ?_
              refine cond_f hF rfl rfl ?_
              refine wp_skip ?_
              refine wp_region_lit ?_
              refine ev0 [0, 0, 0] tab hF hH rfl (by first | exact trivial | (simp only [All, inK_i64, inK_u64, inK_u32, inK_u8, inK_i32, max_i64, max_u64, IntKind.bits, Int.reduceToNat, Int.reduceAdd, Nat.reducePow, Int.reducePow, and_true, true_and, and_self] <;> omega)) ?_
              intro A w hF hH
              refine wpList_nil ?_
              exact ⟨t + 1, ⟨by omega, by omega, Fr.to hF ⟨rfl, rfl, rfl, rfl, rfl, rfl, rfl, rfl, trivial⟩, hH⟩, by omega⟩
            · skip
              refine ev0 [0, 0, 2] tab hF hH rfl (by first | exact trivial | (simp only [All, inK_i64, inK_u64, inK_u32, inK_u8, inK_i32, max_i64, max_u64, IntKind.bits, Int.reduceToNat, Int.reduceAdd, Nat.reducePow, Int.reducePow, and_true, true_and, and_self] <;> omega)) ?_
              intro A w hF hH
              refine wpList_nil ?_
              refine cond_f hF rfl rfl ?_
              refine wp_exit ?_
              repeat (first | refine then_exit ?_ | refine ng_exit ?_ | refine blk_exit ?_ | refine blk_exit_ne rfl ?_)
              refine wp_seq ?_
              refine wp_region_lit ?_
              refine ev0 [0, 0] tab hF hH rfl (by first | exact trivial | (simp only [All, inK_i64, inK_u64, inK_u32, inK_u8, inK_i32, max_i64, max_u64, IntKind.bits, Int.reduceToNat, Int.reduceAdd, Nat.reducePow, Int.reducePow, and_true, true_and, and_self] <;> omega)) ?_
              intro A w hF hH
              refine list_act hF rfl ?_
              refine op_call hF rfl rfl rfl rfl rfl rfl isF14 (grant_calls a hpf hlen8 ⟨hs0, by omega⟩ ⟨hi0, by omega⟩ hH) ?_
              rintro e w ⟨rfl, hH⟩
              refine ⟨_, rfl, fun A hF => ?_⟩
              refine wpList_nil ?_
              refine wp_region_lit ?_
              refine ev0 [0, 0] tab hF hH rfl (by first | exact trivial | (simp only [All, inK_i64, inK_u64, inK_u32, inK_u8, inK_i32, max_i64, max_u64, IntKind.bits, Int.reduceToNat, Int.reduceAdd, Nat.reducePow, Int.reducePow, and_true, true_and, and_self] <;> omega)) ?_
              intro A w hF hH
              refine wpList_nil ?_
              refine wp_region_lit ?_
              refine ev0 [0, 0, 0] tab hF hH rfl (by first | exact trivial | (simp only [All, inK_i64, inK_u64, inK_u32, inK_u8, inK_i32, max_i64, max_u64, IntKind.bits, Int.reduceToNat, Int.reduceAdd, Nat.reducePow, Int.reducePow, and_true, true_and, and_self] <;> omega)) ?_
              intro A w hF hH
              refine wpList_nil ?_
              exact ⟨j + 1, ⟨by omega, a, _, hstep, Fr.to hF ⟨rfl, rfl, rfl, rfl, rfl, rfl, trivial⟩, hH⟩, by omega⟩
        · skip
          refine ev0 [0, 0, 2] tab hF hH rfl (by first | exact trivial | (simp only [All, inK_i64, inK_u64, inK_u32, inK_u8, inK_i32, max_i64, max_u64, IntKind.bits, Int.reduceToNat, Int.reduceAdd, Nat.reducePow, Int.reducePow, and_true, true_and, and_self] <;> omega)) ?_
          intro A w hF hH
          refine wpList_nil ?_
          refine cond_f hF rfl rfl ?_
          refine wp_skip ?_
          refine wp_seq ?_
          refine wp_region_lit ?_
          obtain ⟨F, hFe⟩ : ∃ F, F = R := ⟨_, rfl⟩
          rw [← hFe] at hF
          refine evM [⟨b12, [.int .i64 (j + 1), .int .i64 R, .int .i64 D, .int .i64 bt, .int .i64 g], 35⟩] [0, 0, 0, 0, 0] tab hF hH rfl (by first | exact trivial | (simp only [All, inK_i64, inK_u64, inK_u32, inK_u8, inK_i32, max_i64, max_u64, IntKind.bits, Int.reduceToNat, Int.reduceAdd, Nat.reducePow, Int.reducePow, and_true, true_and, and_self] <;> omega)) ?_
          intro A w hF hH
          refine wpList_nil ?_
          refine wp_seq ?_
          refine wp_seq ?_
          refine wp_region_lit ?_
          refine ev0 [0, 2] tab hF hH rfl (by first | exact trivial | (simp only [All, inK_i64, inK_u64, inK_u32, inK_u8, inK_i32, max_i64, max_u64, IntKind.bits, Int.reduceToNat, Int.reduceAdd, Nat.reducePow, Int.reducePow, and_true, true_and, and_self] <;> omega)) ?_
          intro A w hF hH
          refine wpList_nil ?_
          refine cond_f hF rfl rfl ?_
          refine wp_skip ?_
          refine wp_seq ?_
          refine wp_region_lit ?_
          have hH := hH.tail.swap
          refine ev0 [0] tab hF hH rfl (by first | exact trivial | (simp only [All, inK_i64, inK_u64, inK_u32, inK_u8, inK_i32, max_i64, max_u64, IntKind.bits, Int.reduceToNat, Int.reduceAdd, Nat.reducePow, Int.reducePow, and_true, true_and, and_self] <;> omega)) ?_
          intro A w hF hH
          refine wpList_nil ?_
          refine wp_seq ?_
          refine wp_seq ?_
          refine wp_region_lit ?_
          by_cases hgl : 0 < gs.length
          · refine ev0 [0, 0, 1] tab hF hH rfl (by first | exact trivial | (simp only [All, inK_i64, inK_u64, inK_u32, inK_u8, inK_i32, max_i64, max_u64, IntKind.bits, Int.reduceToNat, Int.reduceAdd, Nat.reducePow, Int.reducePow, and_true, true_and, and_self] <;> omega)) ?_
            intro A w hF hH
            refine wpList_nil ?_
            refine cond_t hF rfl rfl ?_
            refine wp_region_lit ?_
            obtain ⟨b0, off0, rfl⟩ := hg.addr hgl
            have hidx : ((j : Int) + 1) % (gs.length : Int) = (((j + 1) % gs.length : Nat) : Int) := by rw [Int.natCast_emod]; rfl
            have hil : (j + 1) % gs.length < gs.length := Nat.mod_lt _ hgl
            have hat := (hg.mono l1).at_ (fun _ _ => rfl) _ hil
            generalize gs[(j + 1) % gs.length] = x at *
            refine ev0 [0, 0, 0, 0, 0] tab hF hH rfl (by first | exact trivial | (simp only [All, inK_i64, inK_u64, inK_u32, inK_u8, inK_i32, max_i64, max_u64, IntKind.bits, Int.reduceToNat, Int.reduceAdd, Nat.reducePow, Int.reducePow, and_true, true_and, and_self] <;> omega)) ?_
            intro A w hF hH
            simp only [hidx] at hF
            generalize (j + 1) % gs.length = ix at *
            refine evF [] [] (LFok.cons hat (LFok.nil _ _)) [0, 1, 0] tab hF hH rfl (by first | exact trivial | (simp only [All, inK_i64, inK_u64, inK_u32, inK_u8, inK_i32, max_i64, max_u64, IntKind.bits, Int.reduceToNat, Int.reduceAdd, Nat.reducePow, Int.reducePow, and_true, true_and, and_self] <;> omega)) ?_
            intro A w hF hH
            refine wpList_nil ?_
            refine wp_seq ?_
            refine wp_region_lit ?_
            have hx := tmod_mod x (p := D - F) (by omega)
            have hx0 := Int.emod_nonneg x (b := D - F) (by omega)
            have hx1 := Int.emod_lt_of_pos x (b := D - F) (by omega)
            refine ev0 [0, 0, 0, 1, 0, 0, 0, 0, 0, 0] tab hF hH rfl (by first | exact trivial | (simp only [All, inK_i64, inK_u64, inK_u32, inK_u8, inK_i32, max_i64, max_u64, IntKind.bits, Int.reduceToNat, Int.reduceAdd, Nat.reducePow, Int.reducePow, and_true, true_and, and_self] <;> omega)) ?_
            intro A w hF hH
            simp only [hx.1] at hF
            refine wpList_nil ?_
            refine wp_seq ?_
            refine wp_seq ?_
            refine wp_region_lit ?_
            generalize ha : F + x % (D - F) = a at *
            have hstep := hm.step hW (by omega) (a := a) (by omega) (by rw [hR]; omega) (by rw [hD]; omega) (by omega)
            have hmis2 : ∀ t : Int, last + 1 ≤ t → t ≤ a → missedF S t = 0 := fun t h1 h2 => missedF_zero hm.fit.inv (hm.missed hW (by omega) h1 (by rw [hD]; omega))
            refine ev0 [0, 0, 0] tab hF hH rfl (by first | exact trivial | (simp only [All, inK_i64, inK_u64, inK_u32, inK_u8, inK_i32, max_i64, max_u64, IntKind.bits, Int.reduceToNat, Int.reduceAdd, Nat.reducePow, Int.reducePow, and_true, true_and, and_self] <;> omega)) ?_
            intro A w hF hH
            refine wpList_nil ?_
            refine wp_block ?_
            refine loop_j (fun (t : Int) A w => last + 1 ≤ t ∧ t ≤ a + 1 ∧ Fr 101 A [(18, .int .i64 t), (17, .int .i64 a), (11, .int .i64 (j + 1)), (10, .int .i64 last), (9, .pointer (some ⟨s, 0, none⟩)), (7, .pointer (some ⟨b7, 0, none⟩)), (5, .bool true), (1, .slice (some ⟨b0, off0, none⟩) gs.length gcap)] ∧ Hp κ1 w (sup s S :: row b7 [.int .i64 E, .int .i64 L] 28 :: [])) (fun t => (a + 1 - t).toNat) (last + 1) ⟨Int.le_refl _, by omega, Fr.to hF ⟨rfl, rfl, rfl, rfl, rfl, rfl, rfl, rfl, trivial⟩, hH⟩ ?_
            rintro t A w ⟨ht0, ht1, hF, hH⟩
            refine wp_seq ?_
            refine wp_seq ?_
            refine wp_region_lit ?_
            by_cases hta : t ≤ a
            · refine ev0 [0, 0, 1] tab hF hH rfl (by first | exact trivial | (simp only [All, inK_i64, inK_u64, inK_u32, inK_u8, inK_i32, max_i64, max_u64, IntKind.bits, Int.reduceToNat, Int.reduceAdd, Nat.reducePow, Int.reducePow, and_true, true_and, and_self] <;> omega)) ?_
              intro A w hF hH
              refine wpList_nil ?_
              refine cond_t hF rfl rfl ?_
              refine wp_skip ?_
              refine wp_seq ?_
              refine wp_block ?_
              refine wp_seq ?_
              refine wp_region_lit ?_
              refine ev0 [0, 0] tab hF hH rfl (by first | exact trivial | (simp only [All, inK_i64, inK_u64, inK_u32, inK_u8, inK_i32, max_i64, max_u64, IntKind.bits, Int.reduceToNat, Int.reduceAdd, Nat.reducePow, Int.reducePow, and_true, true_and, and_self] <;> omega)) ?_
              intro A w hF hH
              refine list_act hF rfl ?_
              refine op_call hF rfl rfl rfl rfl rfl rfl isF13 (missed_calls t hpf hlen8 hH) ?_
              rintro e w ⟨rfl, hH⟩
              refine ⟨_, rfl, fun A hF => ?_⟩
              rw [hmis2 t ht0 hta] at hF
              refine ev0 [2] tab hF hH rfl (by first | exact trivial | (simp only [All, inK_i64, inK_u64, inK_u32, inK_u8, inK_i32, max_i64, max_u64, IntKind.bits, Int.reduceToNat, Int.reduceAdd, Nat.reducePow, Int.reducePow, and_true, true_and, and_self] <;> omega)) ?_
              intro A w hF hH
              refine wpList_nil ?_
              refine cond_f hF rfl rfl ?_
              refine wp_skip ?_
              refine wp_region_lit ?_
              refine ev0 [0, 0, 0] tab hF hH rfl (by first | exact trivial | (simp only [All, inK_i64, inK_u64, inK_u32, inK_u8, inK_i32, max_i64, max_u64, IntKind.bits, Int.reduceToNat, Int.reduceAdd, Nat.reducePow, Int.reducePow, and_true, true_and, and_self] <;> omega)) ?_
              intro A w hF hH
              refine wpList_nil ?_
              exact ⟨t + 1, ⟨by omega, by omega, Fr.to hF ⟨rfl, rfl, rfl, rfl, rfl, rfl, rfl, rfl, trivial⟩, hH⟩, by omega⟩
            · skip
              refine ev0 [0, 0, 2] tab hF hH rfl (by first | exact trivial | (simp only [All, inK_i64, inK_u64, inK_u32, inK_u8, inK_i32, max_i64, max_u64, IntKind.bits, Int.reduceToNat, Int.reduceAdd, Nat.reducePow, Int.reducePow, and_true, true_and, and_self] <;> omega)) ?_
              intro A w hF hH
              refine wpList_nil ?_
              refine cond_f hF rfl rfl ?_
              refine wp_exit ?_
              repeat (first | refine then_exit ?_ | refine ng_exit ?_ | refine blk_exit ?_ | refine blk_exit_ne rfl ?_)
              refine wp_seq ?_
              refine wp_region_lit ?_
              refine ev0 [0, 0] tab hF hH rfl (by first | exact trivial | (simp only [All, inK_i64, inK_u64, inK_u32, inK_u8, inK_i32, max_i64, max_u64, IntKind.bits, Int.reduceToNat, Int.reduceAdd, Nat.reducePow, Int.reducePow, and_true, true_and, and_self] <;> omega)) ?_
              intro A w hF hH
              refine list_act hF rfl ?_
              refine op_call hF rfl rfl rfl rfl rfl rfl isF14 (grant_calls a hpf hlen8 ⟨hs0, by omega⟩ ⟨hi0, by omega⟩ hH) ?_
              rintro e w ⟨rfl, hH⟩
              refine ⟨_, rfl, fun A hF => ?_⟩
              refine wpList_nil ?_
              refine wp_region_lit ?_
              refine ev0 [0, 0] tab hF hH rfl (by first | exact trivial | (simp only [All, inK_i64, inK_u64, inK_u32, inK_u8, inK_i32, max_i64, max_u64, IntKind.bits, Int.reduceToNat, Int.reduceAdd, Nat.reducePow, Int.reducePow, and_true, true_and, and_self] <;> omega)) ?_
              intro A w hF hH
              refine wpList_nil ?_
              refine wp_region_lit ?_
              refine ev0 [0, 0, 0] tab hF hH rfl (by first | exact trivial | (simp only [All, inK_i64, inK_u64, inK_u32, inK_u8, inK_i32, max_i64, max_u64, IntKind.bits, Int.reduceToNat, Int.reduceAdd, Nat.reducePow, Int.reducePow, and_true, true_and, and_self] <;> omega)) ?_
              intro A w hF hH
              refine wpList_nil ?_
              exact ⟨j + 1, ⟨by omega, a, _, hstep, Fr.to hF ⟨rfl, rfl, rfl, rfl, rfl, rfl, trivial⟩, hH⟩, by omega⟩
          · skip
            refine ev0 [0, 0, 2] tab hF hH rfl (by first | exact trivial | (simp only [All, inK_i64, inK_u64, inK_u32, inK_u8, inK_i32, max_i64, max_u64, IntKind.bits, Int.reduceToNat, Int.reduceAdd, Nat.reducePow, Int.reducePow, and_true, true_and, and_self] <;> omega)) ?_
            intro A w hF hH
            refine wpList_nil ?_
            refine cond_f hF rfl rfl ?_
            refine wp_skip ?_
            refine wp_seq ?_
            refine wp_region_lit ?_
            obtain ⟨x, hx⟩ : ∃ x : Int, x = 0 := ⟨_, rfl⟩
            rw [← hx] at hF
            have hx := tmod_mod x (p := D - F) (by omega)
            have hx0 := Int.emod_nonneg x (b := D - F) (by omega)
            have hx1 := Int.emod_lt_of_pos x (b := D - F) (by omega)
            refine ev0 [0, 0, 0, 1, 0, 0, 0, 0, 0, 0] tab hF hH rfl (by first | exact trivial | (simp only [All, inK_i64, inK_u64, inK_u32, inK_u8, inK_i32, max_i64, max_u64, IntKind.bits, Int.reduceToNat, Int.reduceAdd, Nat.reducePow, Int.reducePow, and_true, true_and, and_self] <;> omega)) ?_
            intro A w hF hH
            simp only [hx.1] at hF
            refine wpList_nil ?_
            refine wp_seq ?_
            refine wp_seq ?_
            refine wp_region_lit ?_
            generalize ha : F + x % (D - F) = a at *
            have hstep := hm.step hW (by omega) (a := a) (by omega) (by rw [hR]; omega) (by rw [hD]; omega) (by omega)
            have hmis2 : ∀ t : Int, last + 1 ≤ t → t ≤ a → missedF S t = 0 := fun t h1 h2 => missedF_zero hm.fit.inv (hm.missed hW (by omega) h1 (by rw [hD]; omega))
            refine ev0 [0, 0, 0] tab hF hH rfl (by first | exact trivial | (simp only [All, inK_i64, inK_u64, inK_u32, inK_u8, inK_i32, max_i64, max_u64, IntKind.bits, Int.reduceToNat, Int.reduceAdd, Nat.reducePow, Int.reducePow, and_true, true_and, and_self] <;> omega)) ?_
            intro A w hF hH
            refine wpList_nil ?_
            refine wp_block ?_
            refine loop_j (fun (t : Int) A w => last + 1 ≤ t ∧ t ≤ a + 1 ∧ Fr 101 A [(18, .int .i64 t), (17, .int .i64 a), (11, .int .i64 (j + 1)), (10, .int .i64 last), (9, .pointer (some ⟨s, 0, none⟩)), (7, .pointer (some ⟨b7, 0, none⟩)), (5, .bool true), (1, .slice G0 gs.length gcap)] ∧ Hp κ1 w (sup s S :: row b7 [.int .i64 E, .int .i64 L] 28 :: [])) (fun t => (a + 1 - t).toNat) (last + 1) ⟨Int.le_refl _, by omega, Fr.to hF ⟨rfl, rfl, rfl, rfl, rfl, rfl, rfl, rfl, trivial⟩, hH⟩ ?_
            rintro t A w ⟨ht0, ht1, hF, hH⟩
            refine wp_seq ?_
            refine wp_seq ?_
            refine wp_region_lit ?_
            by_cases hta : t ≤ a
            · refine ev0 [0, 0, 1] tab hF hH rfl (by first | exact trivial | (simp only [All, inK_i64, inK_u64, inK_u32, inK_u8, inK_i32, max_i64, max_u64, IntKind.bits, Int.reduceToNat, Int.reduceAdd, Nat.reducePow, Int.reducePow, and_true, true_and, and_self] <;> omega)) ?_
              intro A w hF hH
              refine wpList_nil ?_
              refine cond_t hF rfl rfl ?_
              refine wp_skip ?_
              refine wp_seq ?_
              refine wp_block ?_
              refine wp_seq ?_
              refine wp_region_lit ?_
              refine ev0 [0, 0] tab hF hH rfl (by first | exact trivial | (simp only [All, inK_i64, inK_u64, inK_u32, inK_u8, inK_i32, max_i64, max_u64, IntKind.bits, Int.reduceToNat, Int.reduceAdd, Nat.reducePow, Int.reducePow, and_true, true_and, and_self] <;> omega)) ?_
              intro A w hF hH
              refine list_act hF rfl ?_
              refine op_call hF rfl rfl rfl rfl rfl rfl isF13 (missed_calls t hpf hlen8 hH) ?_
              rintro e w ⟨rfl, hH⟩
              refine ⟨_, rfl, fun A hF => ?_⟩
              rw [hmis2 t ht0 hta] at hF
              refine ev0 [2] tab hF hH rfl (by first | exact trivial | (simp only [All, inK_i64, inK_u64, inK_u32, inK_u8, inK_i32, max_i64, max_u64, IntKind.bits, Int.reduceToNat, Int.reduceAdd, Nat.reducePow, Int.reducePow, and_true, true_and, and_self] <;> omega)) ?_
              intro A w hF hH
              refine wpList_nil ?_
              refine cond_f hF rfl rfl ?_
              refine wp_skip ?_
              refine wp_region_lit ?_
              refine ev0 [0, 0, 0] tab hF hH rfl (by first | exact trivial | (simp only [All, inK_i64, inK_u64, inK_u32, inK_u8, inK_i32, max_i64, max_u64, IntKind.bits, Int.reduceToNat, Int.reduceAdd, Nat.reducePow, Int.reducePow, and_true, true_and, and_self] <;> omega)) ?_
              intro A w hF hH
              refine wpList_nil ?_
              exact ⟨t + 1, ⟨by omega, by omega, Fr.to hF ⟨rfl, rfl, rfl, rfl, rfl, rfl, rfl, rfl, trivial⟩, hH⟩, by omega⟩
            · skip
              refine ev0 [0, 0, 2] tab hF hH rfl (by first | exact trivial | (simp only [All, inK_i64, inK_u64, inK_u32, inK_u8, inK_i32, max_i64, max_u64, IntKind.bits, Int.reduceToNat, Int.reduceAdd, Nat.reducePow, Int.reducePow, and_true, true_and, and_self] <;> omega)) ?_
              intro A w hF hH
              refine wpList_nil ?_
              refine cond_f hF rfl rfl ?_
              refine wp_exit ?_
              repeat (first | refine then_exit ?_ | refine ng_exit ?_ | refine blk_exit ?_ | refine blk_exit_ne rfl ?_)
              refine wp_seq ?_
              refine wp_region_lit ?_
              refine ev0 [0, 0] tab hF hH rfl (by first | exact trivial | (simp only [All, inK_i64, inK_u64, inK_u32, inK_u8, inK_i32, max_i64, max_u64, IntKind.bits, Int.reduceToNat, Int.reduceAdd, Nat.reducePow, Int.reducePow, and_true, true_and, and_self] <;> omega)) ?_
              intro A w hF hH
              refine list_act hF rfl ?_
              refine op_call hF rfl rfl rfl rfl rfl rfl isF14 (grant_calls a hpf hlen8 ⟨hs0, by omega⟩ ⟨hi0, by omega⟩ hH) ?_
              rintro e w ⟨rfl, hH⟩
              refine ⟨_, rfl, fun A hF => ?_⟩
              refine wpList_nil ?_
              refine wp_region_lit ?_
              refine ev0 [0, 0] tab hF hH rfl (by first | exact trivial | (simp only [All, inK_i64, inK_u64, inK_u32, inK_u8, inK_i32, max_i64, max_u64, IntKind.bits, Int.reduceToNat, Int.reduceAdd, Nat.reducePow, Int.reducePow, and_true, true_and, and_self] <;> omega)) ?_
              intro A w hF hH
              refine wpList_nil ?_
              refine wp_region_lit ?_
              refine ev0 [0, 0, 0] tab hF hH rfl (by first | exact trivial | (simp only [All, inK_i64, inK_u64, inK_u32, inK_u8, inK_i32, max_i64, max_u64, IntKind.bits, Int.reduceToNat, Int.reduceAdd, Nat.reducePow, Int.reducePow, and_true, true_and, and_self] <;> omega)) ?_
              intro A w hF hH
              refine wpList_nil ?_
              exact ⟨j + 1, ⟨by omega, a, _, hstep, Fr.to hF ⟨rfl, rfl, rfl, rfl, rfl, rfl, trivial⟩, hH⟩, by omega⟩
        --END
    · skip
      refine ev0 [0, 2] tab hF hH rfl (by first | exact trivial | (simp only [All, inK_i64, inK_u64, inK_u32, inK_u8, inK_i32, max_i64, max_u64, IntKind.bits, Int.reduceToNat, Int.reduceAdd, Nat.reducePow, Int.reducePow, and_true, true_and, and_self] <;> omega)) ?_
      intro A w hF hH
      refine wpList_nil ?_
      refine cond_f hF rfl rfl ?_
      refine wp_exit ?_
      repeat (first | refine then_exit ?_ | refine ng_exit ?_ | refine blk_exit ?_ | refine blk_exit_ne rfl ?_)
      refine wp_seq ?_
      refine wp_region_lit ?_
      refine ev0 [0, 0, 0, 0] tab hF hH rfl (by first | exact trivial | (simp only [All, inK_i64, inK_u64, inK_u32, inK_u8, inK_i32, max_i64, max_u64, IntKind.bits, Int.reduceToNat, Int.reduceAdd, Nat.reducePow, Int.reducePow, and_true, true_and, and_self] <;> omega)) ?_
      intro A w hF hH
      refine list_act hF rfl ?_
      refine op_call hF rfl rfl rfl rfl rfl rfl isF13 (missed_calls last hpf hlen8 hH) ?_
      rintro e w ⟨rfl, hH⟩
      refine ⟨_, rfl, fun A hF => ?_⟩
      rw [hmis] at hF
      refine ev0 [1, 0, 0] tab hF hH rfl (by first | exact trivial | (simp only [All, inK_i64, inK_u64, inK_u32, inK_u8, inK_i32, max_i64, max_u64, IntKind.bits, Int.reduceToNat, Int.reduceAdd, Nat.reducePow, Int.reducePow, and_true, true_and, and_self] <;> omega)) ?_
      intro A w hF hH
      refine wpList_nil ?_
      refine wp_ret ?_
      repeat (first | refine then_ret ?_ | refine blk_ret ?_ | refine ng_ret ?_)
      refine ret (M := []) (hs := []) tab hF hH rfl (by first | exact trivial | (simp only [All, inK_i64, inK_u64, inK_u32, inK_u8, inK_i32, max_i64, max_u64, IntKind.bits, Int.reduceToNat, Int.reduceAdd, Nat.reducePow, Int.reducePow, and_true, true_and, and_self] <;> omega)) ?_
      exact ⟨rfl, (hH.lower l1).tail.tail⟩
  · skip
    refine ev0 [0, 1] tab hF hH rfl (by first | exact trivial | (simp only [All, inK_i64, inK_u64, inK_u32, inK_u8, inK_i32, max_i64, max_u64, IntKind.bits, Int.reduceToNat, Int.reduceAdd, Nat.reducePow, Int.reducePow, and_true, true_and, and_self] <;> omega)) ?_
    intro A w hF hH
    refine wpList_nil ?_
    refine cond_t hF rfl rfl ?_
    refine wp_seq ?_
    refine wp_region_lit ?_
    refine ev0 [0, 0] tab hF hH rfl (by first | exact trivial | (simp only [All, inK_i64, inK_u64, inK_u32, inK_u8, inK_i32, max_i64, max_u64, IntKind.bits, Int.reduceToNat, Int.reduceAdd, Nat.reducePow, Int.reducePow, and_true, true_and, and_self] <;> omega)) ?_
    intro A w hF hH
    refine wpList_nil ?_
    refine wp_ret ?_
    repeat (first | refine then_ret ?_ | refine blk_ret ?_ | refine ng_ret ?_)
    refine ret (M := []) (hs := []) tab hF hH rfl (by first | exact trivial | (simp only [All, inK_i64, inK_u64, inK_u32, inK_u8, inK_i32, max_i64, max_u64, IntKind.bits, Int.reduceToNat, Int.reduceAdd, Nat.reducePow, Int.reducePow, and_true, true_and, and_self] <;> omega)) ?_
    exact ⟨rfl, (hH.lower l1).tail⟩
end Go.Proofs.Try
