/- SuperLater: what begins later is later by as much; the plain law and the walk. -/
import Derived.Test.YtfapcagleghlaaaVa
set_option linter.all false
namespace Go.Proofs.Try
open Go Go.Sep

def shP (c : Int) (p : Prt) : Prt := { p with rel := p.rel + c, dl := p.dl + c }
def shS (c : Int) (S : Sup) : Sup := ⟨S.ps.map (shP c), S.last + c, S.served, S.idle⟩
theorem cmpI_sh (a b c : Int) : cmpI (a + c) (b + c) = cmpI a b := by
  unfold cmpI
  by_cases h1 : a < b
  · rw [if_pos h1, if_pos (by omega)]
  · rw [if_neg h1, if_neg (by omega)]
    by_cases h2 : b < a
    · rw [if_pos h2, if_pos (by omega)]
    · rw [if_neg h2, if_neg (by omega)]
theorem ordF_sh (c : Int) (q p : Prt) : ordF (shP c q) (shP c p) = ordF q p := by
  unfold ordF
  rw [show (shP c q).dl = q.dl + c from rfl, show (shP c p).dl = p.dl + c from rfl, cmpI_sh]
  rfl
theorem bestN_sh (c t : Int) (ps : List Prt) : ∀ n, bestN (t + c) (ps.map (shP c)) n = bestN t ps n := by
  intro n
  induction n with
  | zero => rfl
  | succ n ih =>
    simp only [bestN, ih, List.getElem?_map]
    cases h : ps[n]? with
    | none => rfl
    | some p =>
      simp only [Option.map_some, show (shP c p).rel = p.rel + c from rfl]
      by_cases h1 : t < p.rel
      · rw [if_pos h1, if_pos (by omega)]
      · rw [if_neg h1, if_neg (by omega)]
        cases h2 : ps[(bestN t ps n).toNat]? with
        | none => rfl
        | some q => simp only [Option.map_some, ordF_sh]
theorem stepP_sh (c : Int) (p : Prt) : stepP (shP c p) = shP c (stepP p) := by
  by_cases h : p.left - 1 = 0
  · have h1 : stepP (shP c p) = nextP (shP c p) := if_pos h
    have h2 : stepP p = nextP p := if_pos h
    rw [h1, h2]
    simp only [nextP, shP, Prt.mk.injEq, and_true, true_and]
    omega
  · have h1 : stepP (shP c p) = { shP c p with left := p.left - 1 } := if_neg h
    have h2 : stepP p = { p with left := p.left - 1 } := if_neg h
    rw [h1, h2]; rfl
theorem grantF_sh (c t : Int) (S : Sup) (hc : 0 ≤ c) (ht : t + c ≤ 1099511627776) : grantF (shS c S) (t + c) = (shS c (grantF S t).1, (grantF S t).2.map (shP c)) := by
  have e : bestN (t + c) (shS c S).ps (shS c S).ps.length = bestN t S.ps S.ps.length := by
    simp only [shS, List.length_map]; exact bestN_sh c t S.ps S.ps.length
  have el : (shS c S).last = S.last + c := rfl
  unfold grantF
  rw [e, el]
  by_cases h : S.last ≤ t
  · rw [if_pos (And.intro (show S.last + c ≤ t + c by omega) ht), if_pos (And.intro h (show t ≤ 1099511627776 by omega))]
    by_cases hb : bestN t S.ps S.ps.length < 0
    · rw [if_pos hb, if_pos hb]; rfl
    · rw [if_neg hb, if_neg hb]
      have e2 : (shS c S).ps[(bestN t S.ps S.ps.length).toNat]? = S.ps[(bestN t S.ps S.ps.length).toNat]?.map (shP c) := by simp only [shS, List.getElem?_map]
      rw [e2]
      cases hp : S.ps[(bestN t S.ps S.ps.length).toNat]? with
      | none => rfl
      | some p =>
        simp only [Option.map_some, stepP_sh]
        simp only [shS, List.map_set, Prod.mk.injEq, true_and]
        rfl
  · rw [if_neg (fun h' => h (by omega)), if_neg (fun h' => h h'.1)]; rfl
theorem missedF_sh (c t : Int) (S : Sup) (hc : 0 ≤ c) (ht : t + c ≤ 1099511627776) : missedF (shS c S) (t + c) = missedF S t := by
  have hl : ∀ ps : List Prt, misL (t + c) (ps.map (shP c)) = misL t ps := by
    intro ps
    induction ps with
    | nil => rfl
    | cons p ps ih =>
      simp only [List.map_cons, misL, ih]
      congr 1
      unfold misP
      rw [show (shP c p).dl = p.dl + c from rfl, show (shP c p).left = p.left from rfl, show (shP c p).P = p.P from rfl, show (shP c p).E = p.E from rfl]
      by_cases h : p.dl ≤ t
      · rw [if_pos h, if_pos (by omega), show t + c - (p.dl + c) = t - p.dl from by omega]
      · rw [if_neg h, if_neg (by omega)]
  unfold missedF
  simp only [shS, hl]
  by_cases h : S.last ≤ t
  · rw [if_pos ⟨by omega, ht⟩, if_pos ⟨h, by omega⟩]
  · rw [if_neg (fun h' => h (by omega)), if_neg (fun h' => h h'.1)]
theorem newS_sh (c : Int) (ps : List (Int × Int)) : newS c ps = shS c (newS 0 ps) := by
  unfold newS shS
  simp only [Int.zero_add]
  congr 1
  unfold newPs
  apply List.ext_getElem?
  intro i
  simp only [List.getElem?_map, List.getElem?_mapIdx]
  cases ps[i]? with
  | none => rfl
  | some p =>
    simp only [Option.map_some, newP, shP]
    congr 2
    · omega
    · omega
theorem grant_job {a0 m u : Int} {S : Sup} (hf : Fit a0 m u S) (hu : u ≤ 1099511627776) {t : Int} {p : Prt} (h : (grantF S t).2 = some p) : 0 ≤ p.rel ∧ p.rel ≤ 1125899906842624 ∧ 0 ≤ p.dl ∧ p.dl ≤ 1125899906842624 := by
  have hpf := hf.pfit hu
  unfold grantF at h
  split at h
  · split at h
    · cases h
    · split at h
      · cases h
      · rename_i q hq
        simp only [Option.some.injEq] at h
        have := hpf q (List.mem_of_getElem? hq)
        rw [← h]
        exact ⟨this.rel0, this.rel1, this.dl0, this.dl1⟩
  · cases h
set_option maxRecDepth 20000 in
theorem later_walk {κ : K} {w : World} {v v2 : Value} {l : List (Int × Int)} {by_ : Int} {gs : List Int} (hv : Rd κ [] 2 wenc v l) (hlen : l.length ≤ 9223372036854775807) (hr : ∀ p ∈ l, InI p.1 ∧ InI p.2) (hby : InI by_)
    (hg : Rd κ [] 1 e64 v2 gs) (hglen : gs.length ≤ 9223372036854775807) (hgr : ∀ x ∈ gs, InI x) (hH : Hp κ w []) :
    Calls Try.prog 5 #[v, .int .i64 by_, v2] w (fun e w' => e = .returned (.bool true) ∧ Hp κ w' []) := by
  obtain ⟨hp, hl8⟩ := madeF_ok l
  obtain ⟨G0, gcap, rfl, hgcap⟩ := hg.form
  obtain ⟨hb1, hb2, hb3⟩ := tmod_mod by_ (p := 1001) (by omega)
  have hK0 := Int.emod_nonneg by_ (b := 1001) (by omega)
  have hK1 := Int.emod_lt_of_pos by_ (b := 1001) (by omega)
  obtain ⟨hn0, hn1⟩ := hby
  refine enter (args := [v, .int .i64 by_, .slice G0 gs.length gcap]) Try.func5 rfl rfl ?_
  intro A hF
  refine wp_seq ?_
  refine wp_region_lit ?_
  refine ev0 [0] tab hF hH rfl (by first | exact trivial | (simp only [All, inK_i64, inK_u64, inK_u32, inK_u8, inK_i32, max_i64, max_u64, IntKind.bits, Int.reduceToNat, Int.reduceAdd, Nat.reducePow, Int.reducePow, and_true, true_and, and_self] <;> omega)) ?_
  intro A w hF hH
  refine wpList_nil ?_
  refine wp_seq ?_
  refine wp_region_lit ?_
  refine list_act hF rfl ?_
  refine op_call hF rfl rfl rfl rfl rfl rfl isF8 (awake_calls hH) ?_
  rintro e w ⟨rfl, hH⟩
  refine ⟨_, rfl, fun A hF => ?_⟩
  refine ev0 [0] tab hF hH rfl (by first | exact trivial | (simp only [All, inK_i64, inK_u64, inK_u32, inK_u8, inK_i32, max_i64, max_u64, IntKind.bits, Int.reduceToNat, Int.reduceAdd, Nat.reducePow, Int.reducePow, and_true, true_and, and_self] <;> omega)) ?_
  intro A w hF hH
  refine wpList_nil ?_
  refine wp_seq ?_
  refine wp_region_lit ?_
  refine ev0 [0] tab hF hH rfl (by first | exact trivial | (simp only [All, inK_i64, inK_u64, inK_u32, inK_u8, inK_i32, max_i64, max_u64, IntKind.bits, Int.reduceToNat, Int.reduceAdd, Nat.reducePow, Int.reducePow, and_true, true_and, and_self] <;> omega)) ?_
  intro A w hF hH
  refine list_act hF rfl ?_
  refine op_call hF rfl rfl rfl rfl rfl rfl isF9 (made_calls hv hlen hr hH) ?_
  rintro e w ⟨κ1, mv, l1, rfl, hmv, hH⟩
  refine ⟨_, rfl, fun A hF => ?_⟩
  refine ev0 [0] tab hF hH rfl (by first | exact trivial | (simp only [All, inK_i64, inK_u64, inK_u32, inK_u8, inK_i32, max_i64, max_u64, IntKind.bits, Int.reduceToNat, Int.reduceAdd, Nat.reducePow, Int.reducePow, and_true, true_and, and_self] <;> omega)) ?_
  intro A w hF hH
  refine wpList_nil ?_
  refine wp_seq ?_
  refine wp_region_lit ?_
  refine ev0 [0, 1, 0, 0, 0] tab hF hH rfl (by first | exact trivial | (simp only [All, inK_i64, inK_u64, inK_u32, inK_u8, inK_i32, max_i64, max_u64, IntKind.bits, Int.reduceToNat, Int.reduceAdd, Nat.reducePow, Int.reducePow, and_true, true_and, and_self] <;> omega)) ?_
  intro A w hF hH
  simp only [Int.reduceToNat, hb1] at hF
  refine wpList_nil ?_
  refine wp_seq ?_
  refine wp_region_lit ?_
  generalize hk : by_ % 1001 = k at *
  generalize madeF l = ps at *
  by_cases he : (weightF ps).2.2 = 0
  · refine ev0 [0] tab hF hH rfl (by first | exact trivial | (simp only [All, inK_i64, inK_u64, inK_u32, inK_u8, inK_i32, max_i64, max_u64, IntKind.bits, Int.reduceToNat, Int.reduceAdd, Nat.reducePow, Int.reducePow, and_true, true_and, and_self] <;> omega)) ?_
    intro A w hF hH
    refine list_act hF rfl ?_
    refine op_call hF rfl rfl rfl rfl rfl rfl isF11 (new_calls (at_ := 0) hmv hp hl8 he (by omega) (by omega) hH) ?_
    rintro e w ⟨sa, rfl, hH⟩
    refine ⟨_, rfl, fun A hF => ?_⟩
    refine ev0 [0] tab hF hH rfl (by first | exact trivial | (simp only [All, inK_i64, inK_u64, inK_u32, inK_u8, inK_i32, max_i64, max_u64, IntKind.bits, Int.reduceToNat, Int.reduceAdd, Nat.reducePow, Int.reducePow, and_true, true_and, and_self] <;> omega)) ?_
    intro A w hF hH
    refine wpList_nil ?_
    refine wp_seq ?_
    refine wp_region_lit ?_
    refine ev0 [0, 0] tab hF hH rfl (by first | exact trivial | (simp only [All, inK_i64, inK_u64, inK_u32, inK_u8, inK_i32, max_i64, max_u64, IntKind.bits, Int.reduceToNat, Int.reduceAdd, Nat.reducePow, Int.reducePow, and_true, true_and, and_self] <;> omega)) ?_
    intro A w hF hH
    refine list_act hF rfl ?_
    refine op_call hF rfl rfl rfl rfl rfl rfl isF11 (new_calls (at_ := k) hmv hp hl8 he (by omega) (by omega) hH) ?_
    rintro e w ⟨sb, rfl, hH⟩
    refine ⟨_, rfl, fun A hF => ?_⟩
    rw [newS_sh] at hH
    have hH := hH.swap
    refine ev0 [0] tab hF hH rfl (by first | exact trivial | (simp only [All, inK_i64, inK_u64, inK_u32, inK_u8, inK_i32, max_i64, max_u64, IntKind.bits, Int.reduceToNat, Int.reduceAdd, Nat.reducePow, Int.reducePow, and_true, true_and, and_self] <;> omega)) ?_
    intro A w hF hH
    refine wpList_nil ?_
    refine wp_seq ?_
    refine wp_seq ?_
    refine wp_region_lit ?_
    refine ev0 [0, 0, 0, 0, 0, 0] tab hF hH rfl (by first | exact trivial | (simp only [All, inK_i64, inK_u64, inK_u32, inK_u8, inK_i32, max_i64, max_u64, IntKind.bits, Int.reduceToNat, Int.reduceAdd, Nat.reducePow, Int.reducePow, and_true, true_and, and_self] <;> omega)) ?_
    intro A w hF hH
    refine wpList_nil ?_
    refine cond_f hF rfl rfl ?_
    refine wp_skip ?_
    refine wp_seq ?_
    refine wp_region_lit ?_
    refine ev0 [0] tab hF hH rfl (by first | exact trivial | (simp only [All, inK_i64, inK_u64, inK_u32, inK_u8, inK_i32, max_i64, max_u64, IntKind.bits, Int.reduceToNat, Int.reduceAdd, Nat.reducePow, Int.reducePow, and_true, true_and, and_self] <;> omega)) ?_
    intro A w hF hH
    refine wpList_nil ?_
    refine wp_seq ?_
    refine wp_seq ?_
    refine wp_region_lit ?_
    refine ev0 [0] tab hF hH rfl (by first | exact trivial | (simp only [All, inK_i64, inK_u64, inK_u32, inK_u8, inK_i32, max_i64, max_u64, IntKind.bits, Int.reduceToNat, Int.reduceAdd, Nat.reducePow, Int.reducePow, and_true, true_and, and_self] <;> omega)) ?_
    intro A w hF hH
    refine wpList_nil ?_
    refine wp_block ?_
    have hf0 := Fit.new hp (a0 := 0) (by omega) (by omega) 0
    have hf1 := Fit.new hp (a0 := k) (by omega) (by omega) (0 + k)
    rw [newS_sh] at hf1
    obtain ⟨g1, g2, g3⟩ := newS_inv hp 0
    refine loop_j (fun (i : Nat) A w => i ≤ min gs.length 40 ∧ ∃ (now : Int), ∃ S : Sup, 0 ≤ now ∧ now ≤ 7 * (i : Int) ∧ S.last ≤ now ∧ S.ps.length ≤ 8 ∧ Fit 0 i now S ∧ Fit k i (now + k) (shS k S) ∧ Fr 147 A [(13, .int .i64 i), (12, .int .i64 now), (11, .pointer (some ⟨sb, 0, none⟩)), (10, .pointer (some ⟨sa, 0, none⟩)), (9, .int .i64 k), (7, .bool true), (2, .slice G0 gs.length gcap)] ∧ Hp κ1 w (sup sa S :: sup sb (shS k S) :: [])) (fun i => 40 - i) 0 ⟨Nat.zero_le _, 0, _, by omega, by omega, Int.le_refl _, by rw [g3]; exact hl8, hf0, hf1, Fr.to hF ⟨rfl, rfl, rfl, rfl, rfl, rfl, rfl, trivial⟩, hH⟩ ?_
    rintro i A w ⟨hi, now, S, hnow0, hnow1, hlast, hSl, hf, hf2, hF, hH⟩
    refine wp_seq ?_
    refine wp_seq ?_
    refine wp_region_lit ?_
    by_cases hlt : i < min gs.length 40
    · refine ev0 [0, 0, 0, 1, 0, 0, 1, 0] tab hF hH rfl (by first | exact trivial | (simp only [All, inK_i64, inK_u64, inK_u32, inK_u8, inK_i32, max_i64, max_u64, IntKind.bits, Int.reduceToNat, Int.reduceAdd, Nat.reducePow, Int.reducePow, and_true, true_and, and_self] <;> omega)) ?_
      intro A w hF hH
      refine wpList_nil ?_
      refine cond_t hF rfl rfl ?_
      refine wp_skip ?_
      refine wp_seq ?_
      refine wp_block ?_
      refine wp_seq ?_
      refine wp_region_lit ?_
      obtain ⟨b0, off0, rfl⟩ := hg.addr (by omega)
      have hgl : i < gs.length := by omega
      have hat := (hg.mono l1).at_ (fun _ _ => rfl) i hgl
      generalize gs[i] = g at *
      have hg0 := Int.emod_nonneg g (b := 8) (by omega)
      have hg1 := Int.emod_lt_of_pos g (b := 8) (by omega)
      have hm7 : (7 : Int) + 1 = 8 := rfl
      refine evF [] [] (LFok.cons hat (LFok.nil _ _)) [0, 0, 0, 0, 1, 0, 0, 0] tab hF hH rfl (by first | exact trivial | (simp only [All, inK_i64, inK_u64, inK_u32, inK_u8, inK_i32, max_i64, max_u64, IntKind.bits, Int.reduceToNat, Int.reduceAdd, Nat.reducePow, Int.reducePow, and_true, true_and, and_self] <;> omega)) ?_
      intro A w hF hH
      simp only [hm7] at hF
      refine wpList_nil ?_
      refine wp_seq ?_
      refine wp_region_lit ?_
      generalize ht : now + g % 8 = t at *
      have hgr1 := hf.grant (u := t) (by omega) (by omega) (by omega)
      have hgr2 := hf2.grant (u := t + k) (by omega) (by show S.last + k ≤ t + k; omega) (by omega)
      have hsh := grantF_sh k t S (by omega) (by omega)
      rw [hsh] at hgr2
      have hmi := missedF_sh k t (grantF S t).1 (by omega) (by omega)
      obtain ⟨_, _, hla, hle, _⟩ := grant_inv hf.inv (base := S.ps.map (fun p : Prt => (p.E, p.P))) rfl t (by omega) (by omega)
      have hpf := hf.pfit (by omega)
      have hpf2 := hf2.pfit (by omega)
      have hs1 := hf.si
      have hs2 := hf.s0
      have hs3 := hf.i0
      have hlen2 : (shS k S).ps.length ≤ 8 := by simpa [shS] using hSl
      refine ev0 [0, 0] tab hF hH rfl (by first | exact trivial | (simp only [All, inK_i64, inK_u64, inK_u32, inK_u8, inK_i32, max_i64, max_u64, IntKind.bits, Int.reduceToNat, Int.reduceAdd, Nat.reducePow, Int.reducePow, and_true, true_and, and_self] <;> omega)) ?_
      intro A w hF hH
      refine list_act hF rfl ?_
      refine op_call hF rfl rfl rfl rfl rfl rfl isF14 (grant_calls t hpf hSl ⟨hs2, by omega⟩ ⟨hs3, by omega⟩ hH) ?_
      rintro e w ⟨rfl, hH⟩
      refine ⟨_, rfl, fun A hF => ?_⟩
      cases hres : (grantF S t).2 with
      | none =>
        rw [hres] at hF hsh
        refine ev0 [0, 0, 0] tab hF hH rfl (by first | exact trivial | (simp only [All, inK_i64, inK_u64, inK_u32, inK_u8, inK_i32, max_i64, max_u64, IntKind.bits, Int.reduceToNat, Int.reduceAdd, Nat.reducePow, Int.reducePow, and_true, true_and, and_self] <;> omega)) ?_
        intro A w hF hH
        refine list_act hF rfl ?_
        refine op_alloc hF tab rfl rfl rfl rfl rfl hH ?_
        intro b14 A w hF hH
        refine evM [⟨b14, (jenc zeroJ), 40⟩] [0, 0] tab hF hH rfl (by first | exact trivial | (simp only [All, inK_i64, inK_u64, inK_u32, inK_u8, inK_i32, max_i64, max_u64, IntKind.bits, Int.reduceToNat, Int.reduceAdd, Nat.reducePow, Int.reducePow, and_true, true_and, and_self] <;> omega)) ?_
        intro A w hF hH
        refine wpList_nil ?_
        refine wp_seq ?_
        refine wp_region_lit ?_
        have hH := hH.focus 2 rfl
        refine ev0 [0, 0, 0, 0] tab hF hH rfl (by first | exact trivial | (simp only [All, inK_i64, inK_u64, inK_u32, inK_u8, inK_i32, max_i64, max_u64, IntKind.bits, Int.reduceToNat, Int.reduceAdd, Nat.reducePow, Int.reducePow, and_true, true_and, and_self] <;> omega)) ?_
        intro A w hF hH
        refine list_act hF rfl ?_
        refine op_call hF rfl rfl rfl rfl rfl rfl isF14 (grant_calls (t + k) hpf2 hlen2 ⟨hs2, by show S.served ≤ _; omega⟩ ⟨hs3, by show S.idle ≤ _; omega⟩ hH) ?_
        rintro e w ⟨rfl, hH⟩
        refine ⟨_, rfl, fun A hF => ?_⟩
        rw [hsh] at hF hH
        refine ev0 [0, 0, 0] tab hF hH rfl (by first | exact trivial | (simp only [All, inK_i64, inK_u64, inK_u32, inK_u8, inK_i32, max_i64, max_u64, IntKind.bits, Int.reduceToNat, Int.reduceAdd, Nat.reducePow, Int.reducePow, and_true, true_and, and_self] <;> omega)) ?_
        intro A w hF hH
        refine list_act hF rfl ?_
        refine op_alloc hF tab rfl rfl rfl rfl rfl hH ?_
        intro b16 A w hF hH
        refine evM [⟨b16, (jenc zeroJ), 40⟩] [0, 0] tab hF hH rfl (by first | exact trivial | (simp only [All, inK_i64, inK_u64, inK_u32, inK_u8, inK_i32, max_i64, max_u64, IntKind.bits, Int.reduceToNat, Int.reduceAdd, Nat.reducePow, Int.reducePow, and_true, true_and, and_self] <;> omega)) ?_
        intro A w hF hH
        refine wpList_nil ?_
        refine wp_seq ?_
        refine wp_region_lit ?_
        have hH := (hH.tail.focus 2 rfl)
        refine ev0 [0, 0, 0, 0, 0, 0, 0, 0, 0, 0, 0, 0, 0, 0, 0, 0, 0, 0, 0, 0, 0, 0, 0, 0, 0, 0, 0, 0, 0, 0, 0, 0, 0, 0, 0, 0, 0, 0, 0, 0, 0, 0, 0, 0, 0, 0, 0, 0] tab hF hH rfl (by first | exact trivial | (simp only [All, inK_i64, inK_u64, inK_u32, inK_u8, inK_i32, max_i64, max_u64, IntKind.bits, Int.reduceToNat, Int.reduceAdd, Nat.reducePow, Int.reducePow, and_true, true_and, and_self] <;> omega)) ?_
        intro A w hF hH
        refine list_act hF rfl ?_
        refine op_call hF rfl rfl rfl rfl rfl rfl isF13 (missed_calls t (hgr1.pfit (by omega)) (by rw [hle]; exact hSl) hH) ?_
        rintro e w ⟨rfl, hH⟩
        refine ⟨_, rfl, fun A hF => ?_⟩
        have hH := hH.swap
        refine ev0 [0, 0, 0, 0] tab hF hH rfl (by first | exact trivial | (simp only [All, inK_i64, inK_u64, inK_u32, inK_u8, inK_i32, max_i64, max_u64, IntKind.bits, Int.reduceToNat, Int.reduceAdd, Nat.reducePow, Int.reducePow, and_true, true_and, and_self] <;> omega)) ?_
        intro A w hF hH
        refine list_act hF rfl ?_
        refine op_call hF rfl rfl rfl rfl rfl rfl isF13 (missed_calls (t + k) (hgr2.pfit (by omega)) (by simpa [shS, hle] using hSl) hH) ?_
        rintro e w ⟨rfl, hH⟩
        refine ⟨_, rfl, fun A hF => ?_⟩
        refine ev0 [2, 0] tab hF hH rfl (by first | exact trivial | (simp only [All, inK_i64, inK_u64, inK_u32, inK_u8, inK_i32, max_i64, max_u64, IntKind.bits, Int.reduceToNat, Int.reduceAdd, Nat.reducePow, Int.reducePow, and_true, true_and, and_self] <;> omega)) ?_
        intro A w hF hH
        refine wpList_nil ?_
        refine cond_f hF rfl rfl ?_
        refine wp_skip ?_
        refine wp_region_lit ?_
        refine ev0 [0, 0, 0] tab hF hH rfl (by first | exact trivial | (simp only [All, inK_i64, inK_u64, inK_u32, inK_u8, inK_i32, max_i64, max_u64, IntKind.bits, Int.reduceToNat, Int.reduceAdd, Nat.reducePow, Int.reducePow, and_true, true_and, and_self] <;> omega)) ?_
        intro A w hF hH
        refine wpList_nil ?_
        exact ⟨i + 1, ⟨by omega, t, (grantF S t).1, by omega, by omega, by omega, by omega, by simpa using hgr1, by simpa using hgr2, Fr.to hF ⟨rfl, rfl, rfl, rfl, rfl, rfl, rfl, trivial⟩, hH.app (C := [_]) [_, _] |>.swap⟩, by omega⟩
      | some p =>
        have hjob := grant_job hf (by omega) hres
        have hj1 : (shP k p).rel = p.rel + k := rfl
        have hj2 : (shP k p).dl = p.dl + k := rfl
        have hj3 : (shP k p).k = p.k := rfl
        have hj4 : (shP k p).idx = p.idx := rfl
        have hj5 : (shP k p).left = p.left := rfl
        rw [hres] at hF hsh
        refine ev0 [0, 0, 0] tab hF hH rfl (by first | exact trivial | (simp only [All, inK_i64, inK_u64, inK_u32, inK_u8, inK_i32, max_i64, max_u64, IntKind.bits, Int.reduceToNat, Int.reduceAdd, Nat.reducePow, Int.reducePow, and_true, true_and, and_self] <;> omega)) ?_
        intro A w hF hH
        refine list_act hF rfl ?_
        refine op_alloc hF tab rfl rfl rfl rfl rfl hH ?_
        intro b14 A w hF hH
        refine evM [⟨b14, (jenc zeroJ), 40⟩] [0, 0] tab hF hH rfl (by first | exact trivial | (simp only [All, inK_i64, inK_u64, inK_u32, inK_u8, inK_i32, max_i64, max_u64, IntKind.bits, Int.reduceToNat, Int.reduceAdd, Nat.reducePow, Int.reducePow, and_true, true_and, and_self] <;> omega)) ?_
        intro A w hF hH
        refine wpList_nil ?_
        refine wp_seq ?_
        refine wp_region_lit ?_
        have hH := hH.focus 2 rfl
        refine ev0 [0, 0, 0, 0] tab hF hH rfl (by first | exact trivial | (simp only [All, inK_i64, inK_u64, inK_u32, inK_u8, inK_i32, max_i64, max_u64, IntKind.bits, Int.reduceToNat, Int.reduceAdd, Nat.reducePow, Int.reducePow, and_true, true_and, and_self] <;> omega)) ?_
        intro A w hF hH
        refine list_act hF rfl ?_
        refine op_call hF rfl rfl rfl rfl rfl rfl isF14 (grant_calls (t + k) hpf2 hlen2 ⟨hs2, by show S.served ≤ _; omega⟩ ⟨hs3, by show S.idle ≤ _; omega⟩ hH) ?_
        rintro e w ⟨rfl, hH⟩
        refine ⟨_, rfl, fun A hF => ?_⟩
        rw [hsh] at hF hH
        refine ev0 [0, 0, 0] tab hF hH rfl (by first | exact trivial | (simp only [All, inK_i64, inK_u64, inK_u32, inK_u8, inK_i32, max_i64, max_u64, IntKind.bits, Int.reduceToNat, Int.reduceAdd, Nat.reducePow, Int.reducePow, and_true, true_and, and_self] <;> omega)) ?_
        intro A w hF hH
        refine list_act hF rfl ?_
        refine op_alloc hF tab rfl rfl rfl rfl rfl hH ?_
        intro b16 A w hF hH
        refine evM [⟨b16, (jenc zeroJ), 40⟩] [0, 0] tab hF hH rfl (by first | exact trivial | (simp only [All, inK_i64, inK_u64, inK_u32, inK_u8, inK_i32, max_i64, max_u64, IntKind.bits, Int.reduceToNat, Int.reduceAdd, Nat.reducePow, Int.reducePow, and_true, true_and, and_self] <;> omega)) ?_
        intro A w hF hH
        refine wpList_nil ?_
        refine wp_seq ?_
        refine wp_region_lit ?_
        have hH := (hH.focus 2 rfl).swap
        refine evM [⟨b16, jenc (shP k p), 40⟩, ⟨b14, jenc p, 40⟩] [0, 0, 0, 0, 0, 0, 0, 0, 0, 2, 2, 0, 0, 0, 0, 2, 2, 0, 0, 0, 0, 0, 2, 0, 0, 2, 0, 0, 0, 0, 0, 2, 0, 0, 2, 0, 0, 0, 0, 0, 2, 2, 0, 0, 0, 0, 0, 0] tab hF hH rfl (by first | exact trivial | (simp only [All, inK_i64, inK_u64, inK_u32, inK_u8, inK_i32, max_i64, max_u64, IntKind.bits, Int.reduceToNat, Int.reduceAdd, Nat.reducePow, Int.reducePow, and_true, true_and, and_self] <;> omega)) ?_
        intro A w hF hH
        have hH := hH.tail.tail.swap
        refine list_act hF rfl ?_
        refine op_call hF rfl rfl rfl rfl rfl rfl isF13 (missed_calls t (hgr1.pfit (by omega)) (by rw [hle]; exact hSl) hH) ?_
        rintro e w ⟨rfl, hH⟩
        refine ⟨_, rfl, fun A hF => ?_⟩
        have hH := hH.swap
        refine ev0 [0, 0, 0, 0] tab hF hH rfl (by first | exact trivial | (simp only [All, inK_i64, inK_u64, inK_u32, inK_u8, inK_i32, max_i64, max_u64, IntKind.bits, Int.reduceToNat, Int.reduceAdd, Nat.reducePow, Int.reducePow, and_true, true_and, and_self] <;> omega)) ?_
        intro A w hF hH
        refine list_act hF rfl ?_
        refine op_call hF rfl rfl rfl rfl rfl rfl isF13 (missed_calls (t + k) (hgr2.pfit (by omega)) (by simpa [shS, hle] using hSl) hH) ?_
        rintro e w ⟨rfl, hH⟩
        refine ⟨_, rfl, fun A hF => ?_⟩
        refine ev0 [2, 0] tab hF hH rfl (by first | exact trivial | (simp only [All, inK_i64, inK_u64, inK_u32, inK_u8, inK_i32, max_i64, max_u64, IntKind.bits, Int.reduceToNat, Int.reduceAdd, Nat.reducePow, Int.reducePow, and_true, true_and, and_self] <;> omega)) ?_
        intro A w hF hH
        refine wpList_nil ?_
        refine cond_f hF rfl rfl ?_
        refine wp_skip ?_
        refine wp_region_lit ?_
        refine ev0 [0, 0, 0] tab hF hH rfl (by first | exact trivial | (simp only [All, inK_i64, inK_u64, inK_u32, inK_u8, inK_i32, max_i64, max_u64, IntKind.bits, Int.reduceToNat, Int.reduceAdd, Nat.reducePow, Int.reducePow, and_true, true_and, and_self] <;> omega)) ?_
        intro A w hF hH
        refine wpList_nil ?_
        exact ⟨i + 1, ⟨by omega, t, (grantF S t).1, by omega, by omega, by omega, by omega, by simpa using hgr1, by simpa using hgr2, Fr.to hF ⟨rfl, rfl, rfl, rfl, rfl, rfl, rfl, trivial⟩, hH.swap⟩, by omega⟩
    · have hcase : (i : Int) < gs.length ∧ ¬ (i : Int) < 40 ∨ ¬ (i : Int) < gs.length := by omega
      rcases hcase with hc | hc
      · skip
        refine ev0 [0, 0, 0, 1, 0, 0, 2, 0] tab hF hH rfl (by first | exact trivial | (simp only [All, inK_i64, inK_u64, inK_u32, inK_u8, inK_i32, max_i64, max_u64, IntKind.bits, Int.reduceToNat, Int.reduceAdd, Nat.reducePow, Int.reducePow, and_true, true_and, and_self] <;> omega)) ?_
        intro A w hF hH
        refine wpList_nil ?_
        refine cond_f hF rfl rfl ?_
        refine wp_exit ?_
        repeat (first | refine then_exit ?_ | refine ng_exit ?_ | refine blk_exit ?_ | refine blk_exit_ne rfl ?_)
        refine wp_seq ?_
        refine wp_region_lit ?_
        refine ev0 [0, 0, 0] tab hF hH rfl (by first | exact trivial | (simp only [All, inK_i64, inK_u64, inK_u32, inK_u8, inK_i32, max_i64, max_u64, IntKind.bits, Int.reduceToNat, Int.reduceAdd, Nat.reducePow, Int.reducePow, and_true, true_and, and_self] <;> omega)) ?_
        intro A w hF hH
        refine list_act hF rfl ?_
        refine op_call hF rfl rfl rfl rfl rfl rfl isF16 (served_calls hH) ?_
        rintro e w ⟨rfl, hH⟩
        refine ⟨_, rfl, fun A hF => ?_⟩
        have hH := hH.swap
        refine ev0 [0] tab hF hH rfl (by first | exact trivial | (simp only [All, inK_i64, inK_u64, inK_u32, inK_u8, inK_i32, max_i64, max_u64, IntKind.bits, Int.reduceToNat, Int.reduceAdd, Nat.reducePow, Int.reducePow, and_true, true_and, and_self] <;> omega)) ?_
        intro A w hF hH
        refine list_act hF rfl ?_
        refine op_call hF rfl rfl rfl rfl rfl rfl isF16 (served_calls hH) ?_
        rintro e w ⟨rfl, hH⟩
        refine ⟨_, rfl, fun A hF => ?_⟩
        have hH := hH.swap
        have hs : (shS k S).served = S.served := rfl
        have hi : (shS k S).idle = S.idle := rfl
        refine ev0 [1, 0, 0, 0] tab hF hH rfl (by first | exact trivial | (simp only [All, inK_i64, inK_u64, inK_u32, inK_u8, inK_i32, max_i64, max_u64, IntKind.bits, Int.reduceToNat, Int.reduceAdd, Nat.reducePow, Int.reducePow, and_true, true_and, and_self] <;> omega)) ?_
        intro A w hF hH
        refine list_act hF rfl ?_
        refine op_call hF rfl rfl rfl rfl rfl rfl isF17 (idle_calls hH) ?_
        rintro e w ⟨rfl, hH⟩
        refine ⟨_, rfl, fun A hF => ?_⟩
        have hH := hH.swap
        refine ev0 [0] tab hF hH rfl (by first | exact trivial | (simp only [All, inK_i64, inK_u64, inK_u32, inK_u8, inK_i32, max_i64, max_u64, IntKind.bits, Int.reduceToNat, Int.reduceAdd, Nat.reducePow, Int.reducePow, and_true, true_and, and_self] <;> omega)) ?_
        intro A w hF hH
        refine list_act hF rfl ?_
        refine op_call hF rfl rfl rfl rfl rfl rfl isF17 (idle_calls hH) ?_
        rintro e w ⟨rfl, hH⟩
        refine ⟨_, rfl, fun A hF => ?_⟩
        refine ev0 [1, 0, 0] tab hF hH rfl (by first | exact trivial | (simp only [All, inK_i64, inK_u64, inK_u32, inK_u8, inK_i32, max_i64, max_u64, IntKind.bits, Int.reduceToNat, Int.reduceAdd, Nat.reducePow, Int.reducePow, and_true, true_and, and_self] <;> omega)) ?_
        intro A w hF hH
        refine wpList_nil ?_
        refine wp_ret ?_
        repeat (first | refine then_ret ?_ | refine blk_ret ?_ | refine ng_ret ?_)
        refine ret (M := []) (hs := []) tab hF hH rfl (by first | exact trivial | (simp only [All, inK_i64, inK_u64, inK_u32, inK_u8, inK_i32, max_i64, max_u64, IntKind.bits, Int.reduceToNat, Int.reduceAdd, Nat.reducePow, Int.reducePow, and_true, true_and, and_self] <;> omega)) ?_
        exact ⟨rfl, (hH.lower l1).tail.tail⟩
      · skip
        refine ev0 [0, 0, 0, 2, 0, 0, 0, 0] tab hF hH rfl (by first | exact trivial | (simp only [All, inK_i64, inK_u64, inK_u32, inK_u8, inK_i32, max_i64, max_u64, IntKind.bits, Int.reduceToNat, Int.reduceAdd, Nat.reducePow, Int.reducePow, and_true, true_and, and_self] <;> omega)) ?_
        intro A w hF hH
        refine wpList_nil ?_
        refine cond_f hF rfl rfl ?_
        refine wp_exit ?_
        repeat (first | refine then_exit ?_ | refine ng_exit ?_ | refine blk_exit ?_ | refine blk_exit_ne rfl ?_)
        refine wp_seq ?_
        refine wp_region_lit ?_
        refine ev0 [0, 0, 0] tab hF hH rfl (by first | exact trivial | (simp only [All, inK_i64, inK_u64, inK_u32, inK_u8, inK_i32, max_i64, max_u64, IntKind.bits, Int.reduceToNat, Int.reduceAdd, Nat.reducePow, Int.reducePow, and_true, true_and, and_self] <;> omega)) ?_
        intro A w hF hH
        refine list_act hF rfl ?_
        refine op_call hF rfl rfl rfl rfl rfl rfl isF16 (served_calls hH) ?_
        rintro e w ⟨rfl, hH⟩
        refine ⟨_, rfl, fun A hF => ?_⟩
        have hH := hH.swap
        refine ev0 [0] tab hF hH rfl (by first | exact trivial | (simp only [All, inK_i64, inK_u64, inK_u32, inK_u8, inK_i32, max_i64, max_u64, IntKind.bits, Int.reduceToNat, Int.reduceAdd, Nat.reducePow, Int.reducePow, and_true, true_and, and_self] <;> omega)) ?_
        intro A w hF hH
        refine list_act hF rfl ?_
        refine op_call hF rfl rfl rfl rfl rfl rfl isF16 (served_calls hH) ?_
        rintro e w ⟨rfl, hH⟩
        refine ⟨_, rfl, fun A hF => ?_⟩
        have hH := hH.swap
        have hs : (shS k S).served = S.served := rfl
        have hi : (shS k S).idle = S.idle := rfl
        refine ev0 [1, 0, 0, 0] tab hF hH rfl (by first | exact trivial | (simp only [All, inK_i64, inK_u64, inK_u32, inK_u8, inK_i32, max_i64, max_u64, IntKind.bits, Int.reduceToNat, Int.reduceAdd, Nat.reducePow, Int.reducePow, and_true, true_and, and_self] <;> omega)) ?_
        intro A w hF hH
        refine list_act hF rfl ?_
        refine op_call hF rfl rfl rfl rfl rfl rfl isF17 (idle_calls hH) ?_
        rintro e w ⟨rfl, hH⟩
        refine ⟨_, rfl, fun A hF => ?_⟩
        have hH := hH.swap
        refine ev0 [0] tab hF hH rfl (by first | exact trivial | (simp only [All, inK_i64, inK_u64, inK_u32, inK_u8, inK_i32, max_i64, max_u64, IntKind.bits, Int.reduceToNat, Int.reduceAdd, Nat.reducePow, Int.reducePow, and_true, true_and, and_self] <;> omega)) ?_
        intro A w hF hH
        refine list_act hF rfl ?_
        refine op_call hF rfl rfl rfl rfl rfl rfl isF17 (idle_calls hH) ?_
        rintro e w ⟨rfl, hH⟩
        refine ⟨_, rfl, fun A hF => ?_⟩
        refine ev0 [1, 0, 0] tab hF hH rfl (by first | exact trivial | (simp only [All, inK_i64, inK_u64, inK_u32, inK_u8, inK_i32, max_i64, max_u64, IntKind.bits, Int.reduceToNat, Int.reduceAdd, Nat.reducePow, Int.reducePow, and_true, true_and, and_self] <;> omega)) ?_
        intro A w hF hH
        refine wpList_nil ?_
        refine wp_ret ?_
        repeat (first | refine then_ret ?_ | refine blk_ret ?_ | refine ng_ret ?_)
        refine ret (M := []) (hs := []) tab hF hH rfl (by first | exact trivial | (simp only [All, inK_i64, inK_u64, inK_u32, inK_u8, inK_i32, max_i64, max_u64, IntKind.bits, Int.reduceToNat, Int.reduceAdd, Nat.reducePow, Int.reducePow, and_true, true_and, and_self] <;> omega)) ?_
        exact ⟨rfl, (hH.lower l1).tail.tail⟩
  · skip
    refine ev0 [0] tab hF hH rfl (by first | exact trivial | (simp only [All, inK_i64, inK_u64, inK_u32, inK_u8, inK_i32, max_i64, max_u64, IntKind.bits, Int.reduceToNat, Int.reduceAdd, Nat.reducePow, Int.reducePow, and_true, true_and, and_self] <;> omega)) ?_
    intro A w hF hH
    refine list_act hF rfl ?_
    refine op_call hF rfl rfl rfl rfl rfl rfl isF11 (new_nil_calls 0 hmv hp hl8 he hH) ?_
    rintro e w ⟨rfl, hH⟩
    refine ⟨_, rfl, fun A hF => ?_⟩
    refine ev0 [0] tab hF hH rfl (by first | exact trivial | (simp only [All, inK_i64, inK_u64, inK_u32, inK_u8, inK_i32, max_i64, max_u64, IntKind.bits, Int.reduceToNat, Int.reduceAdd, Nat.reducePow, Int.reducePow, and_true, true_and, and_self] <;> omega)) ?_
    intro A w hF hH
    refine wpList_nil ?_
    refine wp_seq ?_
    refine wp_region_lit ?_
    refine ev0 [0, 0] tab hF hH rfl (by first | exact trivial | (simp only [All, inK_i64, inK_u64, inK_u32, inK_u8, inK_i32, max_i64, max_u64, IntKind.bits, Int.reduceToNat, Int.reduceAdd, Nat.reducePow, Int.reducePow, and_true, true_and, and_self] <;> omega)) ?_
    intro A w hF hH
    refine list_act hF rfl ?_
    refine op_call hF rfl rfl rfl rfl rfl rfl isF11 (new_nil_calls k hmv hp hl8 he hH) ?_
    rintro e w ⟨rfl, hH⟩
    refine ⟨_, rfl, fun A hF => ?_⟩
    refine ev0 [0] tab hF hH rfl (by first | exact trivial | (simp only [All, inK_i64, inK_u64, inK_u32, inK_u8, inK_i32, max_i64, max_u64, IntKind.bits, Int.reduceToNat, Int.reduceAdd, Nat.reducePow, Int.reducePow, and_true, true_and, and_self] <;> omega)) ?_
    intro A w hF hH
    refine wpList_nil ?_
    refine wp_seq ?_
    refine wp_seq ?_
    refine wp_region_lit ?_
    refine ev0 [0, 0, 0, 0, 0, 0] tab hF hH rfl (by first | exact trivial | (simp only [All, inK_i64, inK_u64, inK_u32, inK_u8, inK_i32, max_i64, max_u64, IntKind.bits, Int.reduceToNat, Int.reduceAdd, Nat.reducePow, Int.reducePow, and_true, true_and, and_self] <;> omega)) ?_
    intro A w hF hH
    refine wpList_nil ?_
    refine cond_t hF rfl rfl ?_
    refine wp_seq ?_
    refine wp_region_lit ?_
    refine ev0 [0, 0, 0, 0, 0, 0, 0, 0, 0, 0] tab hF hH rfl (by first | exact trivial | (simp only [All, inK_i64, inK_u64, inK_u32, inK_u8, inK_i32, max_i64, max_u64, IntKind.bits, Int.reduceToNat, Int.reduceAdd, Nat.reducePow, Int.reducePow, and_true, true_and, and_self] <;> omega)) ?_
    intro A w hF hH
    refine wpList_nil ?_
    refine wp_ret ?_
    repeat (first | refine then_ret ?_ | refine blk_ret ?_ | refine ng_ret ?_)
    refine ret (M := []) (hs := []) tab hF hH rfl (by first | exact trivial | (simp only [All, inK_i64, inK_u64, inK_u32, inK_u8, inK_i32, max_i64, max_u64, IntKind.bits, Int.reduceToNat, Int.reduceAdd, Nat.reducePow, Int.reducePow, and_true, true_and, and_self] <;> omega)) ?_
    exact ⟨rfl, hH.lower l1⟩
end Go.Proofs.Try
