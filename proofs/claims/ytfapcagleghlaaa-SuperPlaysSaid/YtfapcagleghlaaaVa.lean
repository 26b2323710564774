/- SuperFollows, walked: a supertask of weight 1 follows. -/
import Derived.Test.YtfapcagleghlaaaSepJ
import Derived.Test.YtfapcagleghlaaaTa
import Derived.Test.YtfapcagleghlaaaU
set_option linter.all false
namespace Go.Proofs.Try
open Go Go.Sep

theorem newS_inv {ps : List (Int × Int)} (hp : ∀ p ∈ ps, POk p) (a0 : Int) : SInv a0 (newS a0 ps).ps ∧ Base ps (newS a0 ps).ps ∧ (newS a0 ps).ps.length = ps.length := by
  refine ⟨fun i hi => ?_, ?_, by simp [newS, newPs]⟩
  · have hi' : i < ps.length := by simpa [newS, newPs] using hi
    have e : (newS a0 ps).ps[i] = newP a0 i ps[i] := by simp [newS, newPs]
    rw [e]
    obtain ⟨h1, h2, h3⟩ := hp ps[i] (List.getElem_mem hi')
    refine ⟨rfl, h1, h2, h3, Int.le_refl _, ?_, ?_, h1, Int.le_refl _⟩
    · simp [newP]
    · simp [newP]
  · unfold Base
    apply List.ext_getElem?
    intro i
    simp only [newS, newPs, List.getElem?_map, List.getElem?_mapIdx]
    cases ps[i]? <;> rfl
theorem new_srv {ps : List (Int × Int)} (a0 : Int) : sumL srv (newS a0 ps).ps = 0 := by
  refine sumL_zero fun p hp => ?_
  obtain ⟨i, hi, rfl⟩ := List.mem_iff_getElem.1 hp
  simp [newS, newPs, newP, srv]
theorem new_dm {ps : List (Int × Int)} (hp : ∀ p ∈ ps, POk p) {d : Int} (hd : 0 ≤ d) : sumL (dm d) (newS 0 ps).ps = demB d ps := by
  obtain ⟨h1, h2, h3⟩ := newS_inv hp 0
  rw [← dem_base d h2]
  have : ∀ p ∈ (newS 0 ps).ps, dm d p = dem d p := fun p hp' => by
    obtain ⟨i, hi, rfl⟩ := List.mem_iff_getElem.1 hp'
    have hi' : i < ps.length := by rw [h3] at hi; exact hi
    have e : (newS 0 ps).ps[i] = newP 0 i ps[i] := by simp [newS, newPs]
    rw [e]
    obtain ⟨g1, g2, g3⟩ := hp ps[i] (List.getElem_mem hi')
    have := Int.mul_nonneg (Int.ediv_nonneg hd (show 0 ≤ ps[i].2 by omega)) (show 0 ≤ ps[i].1 by omega)
    simp only [dm, dem, srv, newP]
    omega
  have a1 := sumL_le (f := dm d) (g := dem d) (ps := (newS 0 ps).ps) (fun p h => Int.le_of_eq (this p h))
  have a2 := sumL_le (f := dem d) (g := dm d) (ps := (newS 0 ps).ps) (fun p h => Int.le_of_eq (this p h).symm)
  omega
/-- The numbers of a supertask that was granted m times, ahead of slot t. -/
structure Fit (a0 : Int) (m : Int) (t : Int) (S : Sup) : Prop where
  inv : SInv a0 S.ps
  b0 : 0 ≤ a0
  b1 : a0 ≤ 1000
  rel : ∀ p ∈ S.ps, p.rel ≤ max a0 t + 24
  s0 : 0 ≤ S.served
  i0 : 0 ≤ S.idle
  si : S.served + S.idle ≤ m
theorem Fit.pfit {a0 m t : Int} {S : Sup} (h : Fit a0 m t S) (ht : t ≤ 1099511627776) : ∀ p ∈ S.ps, PFit p := fun p hp => by
  obtain ⟨h1, h2, h3, h4, h5, h6, h7, h8⟩ := h.inv.mem p hp
  have hr := h.rel p hp
  have ha := h.b0
  have ha1 := h.b1
  have e : p.idx ≤ p.P * p.idx := by
    have := Int.mul_le_mul_of_nonneg_right (show 1 ≤ p.P by omega) h4; omega
  exact ⟨h1, h2, h3, h4, by omega, by omega, by omega, by omega, by omega, by omega, by omega⟩
theorem Fit.grant {a0 m t : Int} {S : Sup} (h : Fit a0 m t S) {u : Int} (hu : t ≤ u) (h1 : S.last ≤ u) (h2 : u ≤ 1099511627776) : Fit a0 (m + 1) u (grantF S u).1 := by
  rcases grant_cases h.inv u h1 h2 with ⟨e, hrel⟩ | ⟨k, hk, e, hkr, hmin⟩
  · rw [e]
    exact ⟨h.inv, h.b0, h.b1, fun p hp => by have := h.rel p hp; omega, h.s0, by have := h.i0; simp only; omega, by have := h.si; simp only; omega⟩
  · rw [e]
    have hpk := (h.inv k hk).2
    refine ⟨h.inv.set k hk, h.b0, h.b1, fun p hp => ?_, by have := h.s0; simp only; omega, h.i0, by have := h.si; simp only; omega⟩
    simp only at hp
    rcases List.mem_or_eq_of_mem_set hp with hp | rfl
    · have := h.rel p hp; omega
    · have h3 := hpk.rel
      have h4 := hpk.dl
      have h5 := hpk.P24
      unfold stepP
      split
      · simp only [nextP]; omega
      · simp only; omega
theorem Fit.new {ps : List (Int × Int)} (hp : ∀ p ∈ ps, POk p) {a0 : Int} (h0 : 0 ≤ a0) (h1 : a0 ≤ 1000) (t : Int) : Fit a0 0 t (newS a0 ps) := by
  obtain ⟨g1, g2, g3⟩ := newS_inv hp a0
  refine ⟨g1, h0, h1, fun p hp => ?_, Int.le_refl _, Int.le_refl _, Int.le_refl _⟩
  obtain ⟨i, hi, rfl⟩ := List.mem_iff_getElem.1 hp
  have e : (newS a0 ps).ps[i] = newP a0 i (ps[i]'(by rw [g3] at hi; exact hi)) := by simp [newS, newPs]
  rw [e]
  simp only [newP]
  omega
/-- Where it may be, it uses at most one core. -/
theorem weightF_ok {ps : List (Int × Int)} (h : (weightF ps).2.2 = 0) : ps ≠ [] ∧ perF ps ≤ 1048576 ∧ sumS (perF ps) ps ≤ perF ps ∧ weightF ps = (min (perF ps / minP ps + sumS (perF ps) ps) (perF ps), perF ps, 0) := by
  unfold weightF at h ⊢
  by_cases h0 : ps = []
  · rw [if_pos h0] at h; simp at h
  · rw [if_neg h0] at h ⊢
    by_cases h1 : 1048576 < perF ps
    · rw [if_pos h1] at h; simp at h
    · rw [if_neg h1] at h ⊢
      by_cases h2 : perF ps < sumS (perF ps) ps
      · rw [if_pos h2] at h; simp at h
      · rw [if_neg h2]
        exact ⟨h0, by omega, by omega, rfl⟩
/-- A supertask of weight 1, ahead of slot t. -/
structure Follows (ps : List (Int × Int)) (t : Int) (S : Sup) : Prop where
  fit : Fit 0 t t S
  base : Base ps S.ps
  len : S.ps.length = ps.length
  last : S.last ≤ t
  due : ∀ d, t ≤ d → sumL (dm d) S.ps ≤ d - t
  sum : S.served + S.idle = t
  srv : S.served = sumL srv S.ps
theorem Follows.new {ps : List (Int × Int)} (hp : ∀ p ∈ ps, POk p) (hw : sumS (perF ps) ps ≤ perF ps) : Follows ps 0 (newS 0 ps) := by
  obtain ⟨g1, g2, g3⟩ := newS_inv hp 0
  exact ⟨Fit.new hp (Int.le_refl _) (by omega) 0, g2, g3, Int.le_refl _, fun d hd => by rw [new_dm hp hd]; have := dem_le_one hp hw hd; omega, rfl, by rw [new_srv]; rfl⟩
theorem Follows.step {ps : List (Int × Int)} (hp : ∀ p ∈ ps, POk p) (hw : sumS (perF ps) ps ≤ perF ps) {t : Int} {S : Sup} (h : Follows ps t S) (h0 : 0 ≤ t) (h1 : t ≤ 1000) : Follows ps (t + 1) (grantF S t).1 := by
  obtain ⟨a1, a2, a3, a4, a5, a6, a7, a8⟩ := grant_inv h.fit.inv h.base t h.last (by omega)
  have hf := h.fit.grant (Int.le_refl t) h.last (by omega)
  refine ⟨⟨hf.inv, hf.b0, hf.b1, fun p hp => by have := hf.rel p hp; omega, hf.s0, hf.i0, hf.si⟩, a2, by rw [a4]; exact h.len, by omega, fun d hd => ?_, by have := h.sum; omega, a8 h.srv⟩
  have hg := grant_dm h.fit.inv h.base t d h.last (by omega) hd
  have hdd := h.due d (by omega)
  rcases hg.2 with ⟨g1, g2⟩ | g
  · omega
  · have := dem_le_one hp hw (x := d - (t + 1)) (by omega); omega
theorem Follows.missed {ps : List (Int × Int)} {t : Int} {S : Sup} (h : Follows ps t S) {u : Int} (hu : u ≤ t) : missedF S u = 0 := by
  have h2 := h.due t (Int.le_refl _)
  unfold missedF
  split
  · rw [misL_sum]
    refine sumL_zero fun p hp => ?_
    have h4 := h.fit.inv.mem p hp
    have h5 := sumL_mem_le (f := dm t) (fun p _ => dm_nonneg t p) p hp
    have h6 : ¬ p.dl ≤ t := fun hd => by
      have := (dm_due h4 hd).1; omega
    simp only [misP, if_neg (show ¬ p.dl ≤ u by omega)]
  · rfl
theorem Follows.dueB {ps : List (Int × Int)} {t : Int} {S : Sup} (h : Follows ps t S) : demB t ps ≤ S.served := by
  have h2 := h.due t (Int.le_refl _)
  rw [← dem_base t h.base, h.srv]
  refine sumL_le fun p hp => ?_
  have h5 := sumL_mem_le (f := dm t) (fun p _ => dm_nonneg t p) p hp
  simp only [dm] at h5
  simp only [dem]
  omega
theorem demB_range {x : Int} (h0 : 0 ≤ x) (h1 : x ≤ 1000) : ∀ ps : List (Int × Int), (∀ p ∈ ps, POk p) → 0 ≤ demB x ps ∧ demB x ps ≤ 24000 * ps.length := by
  intro ps
  induction ps with
  | nil => intro _; simp [demB]
  | cons p ps ih =>
    intro h
    obtain ⟨a1, a2⟩ := ih fun q hq => h q (List.mem_cons_of_mem _ hq)
    obtain ⟨b1, b2, b3⟩ := h p (List.mem_cons_self ..)
    have c1 : 0 ≤ x / p.2 := Int.ediv_nonneg h0 (by omega)
    have c2 : x / p.2 ≤ x := Int.ediv_le_self _ h0
    have c3 : x / p.2 * p.1 ≤ 1000 * 24 := Int.mul_le_mul (by omega) (by omega) (by omega) (by omega)
    have c4 : 0 ≤ x / p.2 * p.1 := Int.mul_nonneg c1 (by omega)
    simp only [demB, List.length_cons]
    omega
set_option maxRecDepth 20000 in
theorem follows_walk {κ : K} {w : World} {v : Value} {l : List (Int × Int)} {n : Int} (hv : Rd κ [] 2 wenc v l) (hlen : l.length ≤ 9223372036854775807) (hr : ∀ p ∈ l, InI p.1 ∧ InI p.2) (hn : InI n) (hH : Hp κ w []) :
    Calls Try.prog 4 #[v, .int .i64 n] w (fun e w' => e = .returned (.bool true) ∧ Hp κ w' []) := by
  obtain ⟨hp, hl8⟩ := madeF_ok l
  refine enter (args := [v, .int .i64 n]) Try.func4 rfl rfl ?_
  intro A hF
  refine wp_seq ?_
  refine wp_region_lit ?_
  refine ev0 [0] tab hF hH rfl (by first | exact trivial | (simp only [All, inK_i64, inK_u64, inK_u32, inK_u8, inK_i32, max_i64, max_u64, IntKind.bits, Int.reduceToNat, Int.reduceAdd, Nat.reducePow, Int.reducePow, and_true, true_and, and_self] <;> omega)) ?_
  intro A w hF hH
  refine wpList_nil ?_
  refine wp_seq ?_
  refine wp_region_lit ?_
  refine list_act hF rfl ?_
  refine op_call hF rfl rfl rfl rfl rfl rfl isF8 (awake_calls hH) ?_
  rintro e w ⟨rfl, hH⟩
  refine ⟨_, rfl, fun A hF => ?_⟩
  refine ev0 [0] tab hF hH rfl (by first | exact trivial | (simp only [All, inK_i64, inK_u64, inK_u32, inK_u8, inK_i32, max_i64, max_u64, IntKind.bits, Int.reduceToNat, Int.reduceAdd, Nat.reducePow, Int.reducePow, and_true, true_and, and_self] <;> omega)) ?_
  intro A w hF hH
  refine wpList_nil ?_
  refine wp_seq ?_
  refine wp_region_lit ?_
  refine ev0 [0] tab hF hH rfl (by first | exact trivial | (simp only [All, inK_i64, inK_u64, inK_u32, inK_u8, inK_i32, max_i64, max_u64, IntKind.bits, Int.reduceToNat, Int.reduceAdd, Nat.reducePow, Int.reducePow, and_true, true_and, and_self] <;> omega)) ?_
  intro A w hF hH
  refine list_act hF rfl ?_
  refine op_call hF rfl rfl rfl rfl rfl rfl isF9 (made_calls hv hlen hr hH) ?_
  rintro e w ⟨κ1, mv, l1, rfl, hmv, hH⟩
  refine ⟨_, rfl, fun A hF => ?_⟩
  refine ev0 [0] tab hF hH rfl (by first | exact trivial | (simp only [All, inK_i64, inK_u64, inK_u32, inK_u8, inK_i32, max_i64, max_u64, IntKind.bits, Int.reduceToNat, Int.reduceAdd, Nat.reducePow, Int.reducePow, and_true, true_and, and_self] <;> omega)) ?_
  intro A w hF hH
  refine wpList_nil ?_
  refine wp_seq ?_
  refine wp_region_lit ?_
  refine ev0 [0] tab hF hH rfl (by first | exact trivial | (simp only [All, inK_i64, inK_u64, inK_u32, inK_u8, inK_i32, max_i64, max_u64, IntKind.bits, Int.reduceToNat, Int.reduceAdd, Nat.reducePow, Int.reducePow, and_true, true_and, and_self] <;> omega)) ?_
  intro A w hF hH
  generalize madeF l = ps at *
  by_cases he : (weightF ps).2.2 = 0
  · refine list_act hF rfl ?_
    refine op_call hF rfl rfl rfl rfl rfl rfl isF11 (new_calls (at_ := 0) hmv hp hl8 he (by omega) (by omega) hH) ?_
    rintro e w ⟨s, rfl, hH⟩
    refine ⟨_, rfl, fun A hF => ?_⟩
    obtain ⟨w0, w1, w2, _⟩ := weightF_ok he
    obtain ⟨A0, cap, rfl, hcap⟩ := hmv.form
    obtain ⟨hb1, hb2, hb3⟩ := tmod_mod n (p := 201) (by omega)
    have hK0 := Int.emod_nonneg n (b := 201) (by omega)
    have hK1 := Int.emod_lt_of_pos n (b := 201) (by omega)
    obtain ⟨hn0, hn1⟩ := hn
    refine ev0 [0] tab hF hH rfl (by first | exact trivial | (simp only [All, inK_i64, inK_u64, inK_u32, inK_u8, inK_i32, max_i64, max_u64, IntKind.bits, Int.reduceToNat, Int.reduceAdd, Nat.reducePow, Int.reducePow, and_true, true_and, and_self] <;> omega)) ?_
    intro A w hF hH
    refine wpList_nil ?_
    refine wp_seq ?_
    refine wp_seq ?_
    refine wp_region_lit ?_
    refine ev0 [0, 0] tab hF hH rfl (by first | exact trivial | (simp only [All, inK_i64, inK_u64, inK_u32, inK_u8, inK_i32, max_i64, max_u64, IntKind.bits, Int.reduceToNat, Int.reduceAdd, Nat.reducePow, Int.reducePow, and_true, true_and, and_self] <;> omega)) ?_
    intro A w hF hH
    refine wpList_nil ?_
    refine cond_f hF rfl rfl ?_
    refine wp_skip ?_
    refine wp_seq ?_
    refine wp_region_lit ?_
    refine ev0 [0, 1, 0, 0, 0] tab hF hH rfl (by first | exact trivial | (simp only [All, inK_i64, inK_u64, inK_u32, inK_u8, inK_i32, max_i64, max_u64, IntKind.bits, Int.reduceToNat, Int.reduceAdd, Nat.reducePow, Int.reducePow, and_true, true_and, and_self] <;> omega)) ?_
    intro A w hF hH
    simp only [Int.reduceToNat, hb1] at hF
    refine wpList_nil ?_
    refine wp_seq ?_
    refine wp_seq ?_
    refine wp_region_lit ?_
    obtain ⟨k, hk⟩ : ∃ k : Nat, n % 201 = k := ⟨_, (Int.toNat_of_nonneg hK0).symm⟩
    rw [hk] at hF
    refine ev0 [0] tab hF hH rfl (by first | exact trivial | (simp only [All, inK_i64, inK_u64, inK_u32, inK_u8, inK_i32, max_i64, max_u64, IntKind.bits, Int.reduceToNat, Int.reduceAdd, Nat.reducePow, Int.reducePow, and_true, true_and, and_self] <;> omega)) ?_
    intro A w hF hH
    refine wpList_nil ?_
    refine wp_block ?_
    have hf0 := Follows.new hp w2
    refine loop_j (fun (t : Nat) A w => t ≤ k ∧ ∃ S, Follows ps t S ∧ Fr 82 A [(9, .int .i64 t), (8, .int .i64 k), (7, .pointer (some ⟨s, 0, none⟩)), (6, .slice A0 ps.length cap), (5, .bool true)] ∧ Hp κ1 w (sup s S :: [])) (fun t => k - t) 0 ⟨Nat.zero_le _, _, hf0, Fr.to hF ⟨rfl, rfl, rfl, rfl, rfl, trivial⟩, hH⟩ ?_
    rintro t A w ⟨ht, S, hf, hF, hH⟩
    have hpf := hf.fit.pfit (by omega)
    have hsi := hf.fit.si
    have hs0 := hf.fit.s0
    have hi0 := hf.fit.i0
    have hSl : S.ps.length ≤ 8 := by rw [hf.len]; exact hl8
    refine wp_seq ?_
    refine wp_seq ?_
    refine wp_region_lit ?_
    by_cases hlt : t < k
    · refine ev0 [0, 0, 1] tab hF hH rfl (by first | exact trivial | (simp only [All, inK_i64, inK_u64, inK_u32, inK_u8, inK_i32, max_i64, max_u64, IntKind.bits, Int.reduceToNat, Int.reduceAdd, Nat.reducePow, Int.reducePow, and_true, true_and, and_self] <;> omega)) ?_
      intro A w hF hH
      refine wpList_nil ?_
      refine cond_t hF rfl rfl ?_
      refine wp_skip ?_
      refine wp_seq ?_
      refine wp_block ?_
      refine wp_seq ?_
      refine wp_seq ?_
      refine wp_region_lit ?_
      refine ev0 [0, 0] tab hF hH rfl (by first | exact trivial | (simp only [All, inK_i64, inK_u64, inK_u32, inK_u8, inK_i32, max_i64, max_u64, IntKind.bits, Int.reduceToNat, Int.reduceAdd, Nat.reducePow, Int.reducePow, and_true, true_and, and_self] <;> omega)) ?_
      intro A w hF hH
      refine list_act hF rfl ?_
      refine op_call hF rfl rfl rfl rfl rfl rfl isF13 (missed_calls t hpf hSl hH) ?_
      rintro e w ⟨rfl, hH⟩
      refine ⟨_, rfl, fun A hF => ?_⟩
      rw [hf.missed (Int.le_refl _)] at hF
      refine ev0 [2] tab hF hH rfl (by first | exact trivial | (simp only [All, inK_i64, inK_u64, inK_u32, inK_u8, inK_i32, max_i64, max_u64, IntKind.bits, Int.reduceToNat, Int.reduceAdd, Nat.reducePow, Int.reducePow, and_true, true_and, and_self] <;> omega)) ?_
      intro A w hF hH
      refine wpList_nil ?_
      refine cond_f hF rfl rfl ?_
      refine wp_skip ?_
      refine wp_region_lit ?_
      refine ev0 [0, 0] tab hF hH rfl (by first | exact trivial | (simp only [All, inK_i64, inK_u64, inK_u32, inK_u8, inK_i32, max_i64, max_u64, IntKind.bits, Int.reduceToNat, Int.reduceAdd, Nat.reducePow, Int.reducePow, and_true, true_and, and_self] <;> omega)) ?_
      intro A w hF hH
      refine list_act hF rfl ?_
      refine op_call hF rfl rfl rfl rfl rfl rfl isF14 (grant_calls t hpf hSl ⟨hs0, by omega⟩ ⟨hi0, by omega⟩ hH) ?_
      rintro e w ⟨rfl, hH⟩
      refine ⟨_, rfl, fun A hF => ?_⟩
      refine wpList_nil ?_
      refine wp_region_lit ?_
      refine ev0 [0, 0, 0] tab hF hH rfl (by first | exact trivial | (simp only [All, inK_i64, inK_u64, inK_u32, inK_u8, inK_i32, max_i64, max_u64, IntKind.bits, Int.reduceToNat, Int.reduceAdd, Nat.reducePow, Int.reducePow, and_true, true_and, and_self] <;> omega)) ?_
      intro A w hF hH
      refine wpList_nil ?_
      exact ⟨t + 1, ⟨by omega, _, hf.step hp w2 (by omega) (by omega), Fr.to hF ⟨rfl, rfl, rfl, rfl, rfl, trivial⟩, hH⟩, by omega⟩
    · skip
      refine ev0 [0, 0, 2] tab hF hH rfl (by first | exact trivial | (simp only [All, inK_i64, inK_u64, inK_u32, inK_u8, inK_i32, max_i64, max_u64, IntKind.bits, Int.reduceToNat, Int.reduceAdd, Nat.reducePow, Int.reducePow, and_true, true_and, and_self] <;> omega)) ?_
      intro A w hF hH
      refine wpList_nil ?_
      refine cond_f hF rfl rfl ?_
      refine wp_exit ?_
      repeat (first | refine then_exit ?_ | refine ng_exit ?_ | refine blk_exit ?_ | refine blk_exit_ne rfl ?_)
      refine wp_seq ?_
      refine wp_region_lit ?_
      have e : t = k := by omega
      subst e
      have hdR := demB_range (x := t) (by omega) (by omega) ps hp
      refine ev0 [0] tab hF hH rfl (by first | exact trivial | (simp only [All, inK_i64, inK_u64, inK_u32, inK_u8, inK_i32, max_i64, max_u64, IntKind.bits, Int.reduceToNat, Int.reduceAdd, Nat.reducePow, Int.reducePow, and_true, true_and, and_self] <;> omega)) ?_
      intro A w hF hH
      refine wpList_nil ?_
      refine wp_seq ?_
      refine wp_seq ?_
      refine wp_region_lit ?_
      refine ev0 [0] tab hF hH rfl (by first | exact trivial | (simp only [All, inK_i64, inK_u64, inK_u32, inK_u8, inK_i32, max_i64, max_u64, IntKind.bits, Int.reduceToNat, Int.reduceAdd, Nat.reducePow, Int.reducePow, and_true, true_and, and_self] <;> omega)) ?_
      intro A w hF hH
      refine wpList_nil ?_
      refine wp_block ?_
      refine loop_j (fun (i : Nat) A w => i ≤ ps.length ∧ ∃ q, 0 ≤ q ∧ q + demB t (ps.drop i) = demB t ps ∧ Fr 82 A [(11, .int .i64 i), (10, .int .i64 q), (8, .int .i64 t), (7, .pointer (some ⟨s, 0, none⟩)), (6, .slice A0 ps.length cap), (5, .bool true)] ∧ Hp κ1 w (sup s S :: [])) (fun i => ps.length - i) 0 ⟨Nat.zero_le _, 0, Int.le_refl _, by simp, Fr.to hF ⟨rfl, rfl, rfl, rfl, rfl, rfl, trivial⟩, hH⟩ ?_
      rintro i A w ⟨hi, q, hq0, hq, hF, hH⟩
      refine wp_seq ?_
      refine wp_seq ?_
      refine wp_region_lit ?_
      by_cases hlt : i < ps.length
      · refine ev0 [0, 0, 0, 1] tab hF hH rfl (by first | exact trivial | (simp only [All, inK_i64, inK_u64, inK_u32, inK_u8, inK_i32, max_i64, max_u64, IntKind.bits, Int.reduceToNat, Int.reduceAdd, Nat.reducePow, Int.reducePow, and_true, true_and, and_self] <;> omega)) ?_
        intro A w hF hH
        refine wpList_nil ?_
        refine cond_t hF rfl rfl ?_
        refine wp_skip ?_
        refine wp_seq ?_
        refine wp_block ?_
        obtain ⟨b0, off0, rfl⟩ := hmv.addr (by omega)
        have hat := hmv.at_ (fun _ _ => rfl) i hlt
        have hpi := hp ps[i] (List.getElem_mem hlt)
        have hdR2 := demB_range (x := t) (by omega) (by omega) (ps.drop (i + 1)) (fun p h => hp p (List.mem_of_mem_drop h))
        rw [List.drop_eq_getElem_cons hlt] at hq
        simp only [demB] at hq
        generalize ps[i] = p at *
        obtain ⟨E, P⟩ := p
        obtain ⟨hE1, hE2, hP3⟩ := hpi
        simp only at hE1 hE2 hP3 hq
        have ha1 : ∀ κ' w, κ1.le κ' → Hp κ' w [] → At w ⟨b0, off0 + i * 2 + 1, [.int .i64 P]⟩ := fun κ' w l hH => by
          obtain ⟨cs, t, fr, h1, h2⟩ := hat κ' w l hH
          refine ⟨cs, t, fr, h1, fun j u hu => ?_⟩
          cases j with
          | zero => exact h2 1 u hu
          | succ j => simp at hu
        have c1 : 0 ≤ (t : Int) / P := Int.ediv_nonneg (by omega) (by omega)
        have c2 : (t : Int) / P ≤ t := Int.ediv_le_self _ (by omega)
        have c3 : (t : Int) / P * E ≤ 1000 * 24 := Int.mul_le_mul (by omega) (by omega) (by omega) (by omega)
        have c4 : 0 ≤ (t : Int) / P * E := Int.mul_nonneg c1 (by omega)
        refine dr_reads (by kernel_rfl) [] [] [] [(0, 0), (1, 0), (2, 0), (3, 0), (4, 0), (5, 1), (6, 0), (7, 0), (9, 0), (10, 0), (11, 0), (12, 0), (13, 3)] 4 tab (LFok.cons ha1 (LFok.cons hat (LFok.nil _ _))) (by kernel_rfl) rfl hF hH (by kernel_rfl) rfl (by first | exact trivial | (simp only [All, inK_i64, inK_u64, inK_u32, inK_u8, inK_i32, max_i64, max_u64, IntKind.bits, Int.reduceToNat, Int.reduceAdd, Nat.reducePow, Int.reducePow, and_true, true_and, and_self] <;> omega)) ?_
        intro A w hF hH
        refine dr_act (k := 8) (by kernel_rfl) rfl hF rfl ?_
        refine op_call hF rfl rfl rfl rfl rfl rfl isF15 (low_calls (E := 1) (P := P) (k := t) ⟨Int.le_refl _, by simp only; omega, by simp only; omega⟩ (by omega) (by omega) hH) ?_
        rintro e w ⟨rfl, hH⟩
        refine ⟨_, rfl, fun A hF => ?_⟩
        refine ⟨fun _ => Keeps.of hH (K.le.refl _), ?_⟩
        simp only [Int.one_mul] at hF
        refine dr_more [] [] [(14, 0), (15, 0), (16, 0)] 0 (K.le.refl _) tab (LFok.nil _ _) (by kernel_rfl) rfl hF hH (by kernel_rfl) rfl (by first | exact trivial | (simp only [All, inK_i64, inK_u64, inK_u32, inK_u8, inK_i32, max_i64, max_u64, IntKind.bits, Int.reduceToNat, Int.reduceAdd, Nat.reducePow, Int.reducePow, and_true, true_and, and_self] <;> omega)) ?_
        intro A hF
        refine dr_done (by kernel_rfl) ?_ _
        refine wp_region_lit ?_
        refine ev0 [0, 0, 0] tab hF hH rfl (by first | exact trivial | (simp only [All, inK_i64, inK_u64, inK_u32, inK_u8, inK_i32, max_i64, max_u64, IntKind.bits, Int.reduceToNat, Int.reduceAdd, Nat.reducePow, Int.reducePow, and_true, true_and, and_self] <;> omega)) ?_
        intro A w hF hH
        refine wpList_nil ?_
        exact ⟨i + 1, ⟨by omega, q + t / P * E, by omega, by omega, Fr.to hF ⟨rfl, rfl, rfl, rfl, rfl, rfl, trivial⟩, hH⟩, by omega⟩
      · skip
        refine ev0 [0, 0, 0, 2] tab hF hH rfl (by first | exact trivial | (simp only [All, inK_i64, inK_u64, inK_u32, inK_u8, inK_i32, max_i64, max_u64, IntKind.bits, Int.reduceToNat, Int.reduceAdd, Nat.reducePow, Int.reducePow, and_true, true_and, and_self] <;> omega)) ?_
        intro A w hF hH
        refine wpList_nil ?_
        refine cond_f hF rfl rfl ?_
        refine wp_exit ?_
        repeat (first | refine then_exit ?_ | refine ng_exit ?_ | refine blk_exit ?_ | refine blk_exit_ne rfl ?_)
        refine wp_seq ?_
        refine wp_region_lit ?_
        rw [List.drop_eq_nil_of_le (by omega)] at hq
        simp only [demB, Int.add_zero] at hq
        have hdue := hf.dueB
        have hsum := hf.sum
        have hm0 : missedF S (max ((t : Int) - 1) 0) = 0 := hf.missed (by omega)
        refine ev0 [0, 0, 0] tab hF hH rfl (by first | exact trivial | (simp only [All, inK_i64, inK_u64, inK_u32, inK_u8, inK_i32, max_i64, max_u64, IntKind.bits, Int.reduceToNat, Int.reduceAdd, Nat.reducePow, Int.reducePow, and_true, true_and, and_self] <;> omega)) ?_
        intro A w hF hH
        refine list_act hF rfl ?_
        refine op_call hF rfl rfl rfl rfl rfl rfl isF16 (served_calls hH) ?_
        rintro e w ⟨rfl, hH⟩
        refine ⟨_, rfl, fun A hF => ?_⟩
        refine ev0 [0] tab hF hH rfl (by first | exact trivial | (simp only [All, inK_i64, inK_u64, inK_u32, inK_u8, inK_i32, max_i64, max_u64, IntKind.bits, Int.reduceToNat, Int.reduceAdd, Nat.reducePow, Int.reducePow, and_true, true_and, and_self] <;> omega)) ?_
        intro A w hF hH
        refine list_act hF rfl ?_
        refine op_call hF rfl rfl rfl rfl rfl rfl isF17 (idle_calls hH) ?_
        rintro e w ⟨rfl, hH⟩
        refine ⟨_, rfl, fun A hF => ?_⟩
        refine ev0 [0, 0, 1, 0, 0, 0] tab hF hH rfl (by first | exact trivial | (simp only [All, inK_i64, inK_u64, inK_u32, inK_u8, inK_i32, max_i64, max_u64, IntKind.bits, Int.reduceToNat, Int.reduceAdd, Nat.reducePow, Int.reducePow, and_true, true_and, and_self] <;> omega)) ?_
        intro A w hF hH
        refine list_act hF rfl ?_
        refine op_call hF rfl rfl rfl rfl rfl rfl isF16 (served_calls hH) ?_
        rintro e w ⟨rfl, hH⟩
        refine ⟨_, rfl, fun A hF => ?_⟩
        refine ev0 [0, 1, 0, 0, 0, 0, 0, 0] tab hF hH rfl (by first | exact trivial | (simp only [All, inK_i64, inK_u64, inK_u32, inK_u8, inK_i32, max_i64, max_u64, IntKind.bits, Int.reduceToNat, Int.reduceAdd, Nat.reducePow, Int.reducePow, and_true, true_and, and_self] <;> omega)) ?_
        intro A w hF hH
        refine list_act hF rfl ?_
        refine op_call hF rfl rfl rfl rfl rfl rfl isF13 (missed_calls (max ((t : Int) - 1) 0) hpf hSl hH) ?_
        rintro e w ⟨rfl, hH⟩
        refine ⟨_, rfl, fun A hF => ?_⟩
        rw [hm0] at hF
        refine ev0 [1, 0, 0] tab hF hH rfl (by first | exact trivial | (simp only [All, inK_i64, inK_u64, inK_u32, inK_u8, inK_i32, max_i64, max_u64, IntKind.bits, Int.reduceToNat, Int.reduceAdd, Nat.reducePow, Int.reducePow, and_true, true_and, and_self] <;> omega)) ?_
        intro A w hF hH
        refine wpList_nil ?_
        refine wp_ret ?_
        repeat (first | refine then_ret ?_ | refine blk_ret ?_ | refine ng_ret ?_)
        refine ret (M := []) (hs := []) tab hF hH rfl (by first | exact trivial | (simp only [All, inK_i64, inK_u64, inK_u32, inK_u8, inK_i32, max_i64, max_u64, IntKind.bits, Int.reduceToNat, Int.reduceAdd, Nat.reducePow, Int.reducePow, and_true, true_and, and_self] <;> omega)) ?_
        exact ⟨rfl, (hH.lower l1).tail⟩
  · skip
    refine list_act hF rfl ?_
    refine op_call hF rfl rfl rfl rfl rfl rfl isF11 (new_nil_calls 0 hmv hp hl8 he hH) ?_
    rintro e w ⟨rfl, hH⟩
    refine ⟨_, rfl, fun A hF => ?_⟩
    refine ev0 [0] tab hF hH rfl (by first | exact trivial | (simp only [All, inK_i64, inK_u64, inK_u32, inK_u8, inK_i32, max_i64, max_u64, IntKind.bits, Int.reduceToNat, Int.reduceAdd, Nat.reducePow, Int.reducePow, and_true, true_and, and_self] <;> omega)) ?_
    intro A w hF hH
    refine wpList_nil ?_
    refine wp_seq ?_
    refine wp_seq ?_
    refine wp_region_lit ?_
    refine ev0 [0, 0] tab hF hH rfl (by first | exact trivial | (simp only [All, inK_i64, inK_u64, inK_u32, inK_u8, inK_i32, max_i64, max_u64, IntKind.bits, Int.reduceToNat, Int.reduceAdd, Nat.reducePow, Int.reducePow, and_true, true_and, and_self] <;> omega)) ?_
    intro A w hF hH
    refine wpList_nil ?_
    refine cond_t hF rfl rfl ?_
    refine wp_seq ?_
    refine wp_region_lit ?_
    refine ev0 [0, 0] tab hF hH rfl (by first | exact trivial | (simp only [All, inK_i64, inK_u64, inK_u32, inK_u8, inK_i32, max_i64, max_u64, IntKind.bits, Int.reduceToNat, Int.reduceAdd, Nat.reducePow, Int.reducePow, and_true, true_and, and_self] <;> omega)) ?_
    intro A w hF hH
    refine wpList_nil ?_
    refine wp_ret ?_
    repeat (first | refine then_ret ?_ | refine blk_ret ?_ | refine ng_ret ?_)
    refine ret (M := []) (hs := []) tab hF hH rfl (by first | exact trivial | (simp only [All, inK_i64, inK_u64, inK_u32, inK_u8, inK_i32, max_i64, max_u64, IntKind.bits, Int.reduceToNat, Int.reduceAdd, Nat.reducePow, Int.reducePow, and_true, true_and, and_self] <;> omega)) ?_
    exact ⟨rfl, hH.lower l1⟩
end Go.Proofs.Try
