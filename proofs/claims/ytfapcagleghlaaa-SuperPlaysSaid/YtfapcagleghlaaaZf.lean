/- SuperPlays, walked: a supertask goes on as the document's does. -/
import Derived.Test.YtfapcagleghlaaaZe
set_option linter.all false
namespace Go.Proofs.Try
open Go Go.Sep

theorem srt_unique : ∀ (l1 l2 : List Prt), l1.Perm l2 → Srt l1 → Srt l2 → (∀ x ∈ l1, ∀ y ∈ l1, leP x y → leP y x → x = y) → l1 = l2
  | [], l2, h, _, _, _ => h.symm.eq_nil.symm
  | x :: l1, [], h, _, _, _ => by have := h.eq_nil; cases this
  | x :: l1, y :: l2, h, s1, s2, ha => by
    have hx : x ∈ y :: l2 := h.mem_iff.1 (List.mem_cons_self ..)
    have hy : y ∈ x :: l1 := h.mem_iff.2 (List.mem_cons_self ..)
    have p1 := List.pairwise_cons.1 s1
    have p2 := List.pairwise_cons.1 s2
    have e1 : leP x y := by
      rcases List.mem_cons.1 hy with e | h
      · rw [e]; exact leP_refl _
      · exact p1.1 y h
    have e2 : leP y x := by
      rcases List.mem_cons.1 hx with e | h
      · rw [e]; exact leP_refl _
      · exact p2.1 x h
    have e := ha x (List.mem_cons_self ..) y hy e1 e2
    subst e
    rw [srt_unique l1 l2 (h.cons_inv) p1.2 p2.2 fun a h b h' => ha a (List.mem_cons_of_mem _ h) b (List.mem_cons_of_mem _ h')]
theorem relF_uniq {a0 at_ : Int} : ∀ (n : Nat) (p x y : Prt), PInv a0 p → x ∈ relF at_ n p → y ∈ relF at_ n p → x.dl = y.dl → x = y
  | 0, p, x, y, _, h, _, _ => by cases h
  | n + 1, p, x, y, hp, hx, hy, e => by
    unfold relF at hx hy
    have hd : p.dl < (nextP p).dl := by have := hp.E1; have := hp.EP; simp only [nextP]; omega
    split at hx
    · rename_i hr
      rw [if_pos hr] at hy
      rcases List.mem_cons.1 hx with rfl | hx <;> rcases List.mem_cons.1 hy with rfl | hy
      · rfl
      · have := (relF_mem n _ y (nextP_inv hp) hy).2.1
        rcases this with rfl | h <;> omega
      · have := (relF_mem n _ x (nextP_inv hp) hx).2.1
        rcases this with rfl | h <;> omega
      · exact relF_uniq n _ x y (nextP_inv hp) hx hy e
    · cases hx
theorem rel_unique {a0 at_ : Int} {ps J O : List Prt} (hs : SInv a0 ps) (hJ : J.Perm (relL at_ ps)) (hO : O.Perm (relL at_ ps)) (sJ : Srt J) (sO : Srt O) : J = O := by
  refine srt_unique J O (hJ.trans hO.symm) sJ sO fun x hx y hy h1 h2 => ?_
  obtain ⟨p, hp, hx⟩ := List.mem_flatMap.1 (hJ.mem_iff.1 hx)
  obtain ⟨q, hq, hy⟩ := List.mem_flatMap.1 (hJ.mem_iff.1 hy)
  obtain ⟨i, hi, rfl⟩ := List.mem_iff_getElem.1 hp
  obtain ⟨j, hj, rfl⟩ := List.mem_iff_getElem.1 hq
  have k1 := (relF_mem 1000 _ x (hs i hi).2 hx).2.2
  have k2 := (relF_mem 1000 _ y (hs j hj).2 hy).2.2
  have g1 := (hs i hi).1
  have g2 := (hs j hj).1
  unfold leP at h1 h2
  have e : i = j := by omega
  subst e
  exact relF_uniq 1000 _ x y (hs i hi).2 hx hy (by omega)
set_option maxRecDepth 20000 in
theorem jobs_nil_calls {κ : K} {w : World} {C : List HP} {s : Nat} {S : Sup} (at_ : Int) (hs : ¬ (S.last ≤ at_ ∧ at_ ≤ 1099511627776)) (hH : Hp κ w (sup s S :: C)) : Calls Try.prog 18 #[.pointer (some ⟨s, 0, none⟩), .int .i64 at_] w
    (fun e w' => e = .returned (.slice none 0 0) ∧ Hp κ w' (sup s S :: C)) := by
  refine enter (args := [.pointer (some ⟨s, 0, none⟩), .int .i64 at_]) Try.func18 rfl rfl ?_
  intro A hF
  refine wp_seq ?_
  refine wp_region_lit ?_
  refine list_act hF rfl ?_
  refine op_box hF rfl rfl rfl rfl rfl hH ?_
  intro b3 A w hF hH
  refine ev0 [0] tab hF hH rfl (by first | exact trivial | (simp only [All, inK_i64, inK_u64, inK_u32, inK_u8, inK_i32, max_i64, max_u64, IntKind.bits, Int.reduceToNat, Int.reduceAdd, Nat.reducePow, Int.reducePow, and_true, true_and, and_self] <;> omega)) ?_
  intro A w hF hH
  refine wpList_nil ?_
  refine wp_seq ?_
  refine wp_seq ?_
  refine wp_region_lit ?_
  refine evM [⟨b3, [.int .i64 at_], 2⟩] [0, 0] tab hF hH rfl (by first | exact trivial | (simp only [All, inK_i64, inK_u64, inK_u32, inK_u8, inK_i32, max_i64, max_u64, IntKind.bits, Int.reduceToNat, Int.reduceAdd, Nat.reducePow, Int.reducePow, and_true, true_and, and_self] <;> omega)) ?_
  intro A w hF hH
  have hH := hH.swap
  refine list_act hF rfl ?_
  refine op_call hF rfl rfl rfl rfl rfl rfl isF36 (slot_calls at_ hH) ?_
  rintro e w ⟨rfl, hH⟩
  refine ⟨_, rfl, fun A hF => ?_⟩
  rw [show decide (S.last ≤ at_ ∧ at_ ≤ 1099511627776) = false from by simpa using hs] at hF
  refine ev0 [0] tab hF hH rfl (by first | exact trivial | (simp only [All, inK_i64, inK_u64, inK_u32, inK_u8, inK_i32, max_i64, max_u64, IntKind.bits, Int.reduceToNat, Int.reduceAdd, Nat.reducePow, Int.reducePow, and_true, true_and, and_self] <;> omega)) ?_
  intro A w hF hH
  refine wpList_nil ?_
  refine cond_t hF rfl rfl ?_
  refine wp_seq ?_
  refine wp_region_lit ?_
  refine ev0 [0] tab hF hH rfl (by first | exact trivial | (simp only [All, inK_i64, inK_u64, inK_u32, inK_u8, inK_i32, max_i64, max_u64, IntKind.bits, Int.reduceToNat, Int.reduceAdd, Nat.reducePow, Int.reducePow, and_true, true_and, and_self] <;> omega)) ?_
  intro A w hF hH
  refine wpList_nil ?_
  refine wp_ret ?_
  repeat (first | refine then_ret ?_ | refine blk_ret ?_ | refine ng_ret ?_)
  refine ret (M := []) (hs := []) tab hF hH rfl (by first | exact trivial | (simp only [All, inK_i64, inK_u64, inK_u32, inK_u8, inK_i32, max_i64, max_u64, IntKind.bits, Int.reduceToNat, Int.reduceAdd, Nat.reducePow, Int.reducePow, and_true, true_and, and_self] <;> omega)) ?_
  exact ⟨rfl, hH.swap.tail⟩
theorem jobs_any {κ : K} {w : World} {C : List HP} {s : Nat} {S : Sup} {a0 : Int} (at_ : Int) (ha0 : 0 ≤ a0) (hp : ∀ p ∈ S.ps, PInv a0 p) (hl : S.ps.length ≤ 8) (hH : Hp κ w (sup s S :: C)) : Calls Try.prog 18 #[.pointer (some ⟨s, 0, none⟩), .int .i64 at_] w
    (fun e w' => ∃ v, ∃ J : List Prt, e = .returned v ∧ ((S.last ≤ at_ ∧ at_ ≤ 1099511627776) → J.Perm (relL at_ S.ps) ∧ Srt J) ∧ (¬ (S.last ≤ at_ ∧ at_ ≤ 1099511627776) → J = []) ∧ Hp κ w' (osl v 40 5 J.length (J.flatMap jenc) :: sup s S :: C)) := by
  by_cases hs : S.last ≤ at_ ∧ at_ ≤ 1099511627776
  · refine (jobs_calls at_ ha0 hp hl hs hH).mono ?_
    rintro e w ⟨v, J, rfl, h1, h2, h3⟩
    exact ⟨v, J, rfl, fun _ => ⟨h1, h2⟩, fun h => absurd hs h, h3⟩
  · refine (jobs_nil_calls at_ hs hH).mono ?_
    rintro e w ⟨rfl, h3⟩
    exact ⟨_, [], rfl, fun h => absurd h hs, fun _ => rfl, osl_nil 40 5 h3⟩
/-- One grant, whether the slot may be or not. -/
theorem Fit.any {a0 m : Int} {S : Sup} (h : Fit a0 m S.last S) (hl : a0 ≤ S.last) (u : Int) (hu : S.last ≤ 1000) (hu2 : u ≤ 1000) : Fit a0 (m + 1) (grantF S u).1.last (grantF S u).1 ∧ a0 ≤ (grantF S u).1.last ∧ (grantF S u).1.last ≤ max S.last u ∧ bs (grantF S u).1 = bs S := by
  by_cases hs : S.last ≤ u ∧ u ≤ 1099511627776
  · have g := h.grant hs.1 hs.1 hs.2
    obtain ⟨_, a2, a3, _⟩ := grant_inv h.inv (base := bs S) rfl u hs.1 hs.2
    rw [a3]
    exact ⟨g, by omega, by omega, a2⟩
  · have e : grantF S u = (S, none) := by rw [grantF, if_neg hs]
    rw [e]
    refine ⟨⟨h.inv, h.b0, h.b1, h.rel, h.s0, h.i0, by have := h.si; simp only; omega⟩, hl, by simp only; omega, rfl⟩

set_option maxHeartbeats 2000000 in
set_option maxRecDepth 20000 in
theorem plays_walk {κ : K} {w : World} {v v2 : Value} {l : List (Int × Int)} {at_ : Int} {gs : List Int} (hv : Rd κ [] 2 wenc v l) (hlen : l.length ≤ 9223372036854775807) (hr : ∀ p ∈ l, InI p.1 ∧ InI p.2) (hby : InI at_)
    (hg : Rd κ [] 1 e64 v2 gs) (hglen : gs.length ≤ 9223372036854775807) (hgr : ∀ x ∈ gs, InI x) (hH : Hp κ w []) :
    Calls Try.prog 7 #[v, .int .i64 at_, v2] w (fun e w' => e = .returned (.bool true) ∧ Hp κ w' []) := by
  obtain ⟨hp, hl8⟩ := madeF_ok l
  obtain ⟨G0, gcap, rfl, hgcap⟩ := hg.form
  obtain ⟨hb1, hb2, hb3⟩ := tmod_mod at_ (p := 101) (by omega)
  have hK0 := Int.emod_nonneg at_ (b := 101) (by omega)
  have hK1 := Int.emod_lt_of_pos at_ (b := 101) (by omega)
  obtain ⟨hn0, hn1⟩ := hby
  refine enter (args := [v, .int .i64 at_, .slice G0 gs.length gcap]) Try.func7 rfl rfl ?_
  intro A hF
  refine wp_seq ?_
  refine wp_region_lit ?_
  refine ev0 [0] tab hF hH rfl (by first | exact trivial | (simp only [All, inK_i64, inK_u64, inK_u32, inK_u8, inK_i32, max_i64, max_u64, IntKind.bits, Int.reduceToNat, Int.reduceAdd, Nat.reducePow, Int.reducePow, and_true, true_and, and_self] <;> omega)) ?_
  intro A w hF hH
  refine wpList_nil ?_
  refine wp_seq ?_
  refine wp_region_lit ?_
  refine list_act hF rfl ?_
  refine op_call hF rfl rfl rfl rfl rfl rfl isF8 (awake_calls hH) ?_
  rintro e w ⟨rfl, hH⟩
  refine ⟨_, rfl, fun A hF => ?_⟩
  refine ev0 [0] tab hF hH rfl (by first | exact trivial | (simp only [All, inK_i64, inK_u64, inK_u32, inK_u8, inK_i32, max_i64, max_u64, IntKind.bits, Int.reduceToNat, Int.reduceAdd, Nat.reducePow, Int.reducePow, and_true, true_and, and_self] <;> omega)) ?_
  intro A w hF hH
  refine wpList_nil ?_
  refine wp_seq ?_
  refine wp_region_lit ?_
  refine ev0 [0] tab hF hH rfl (by first | exact trivial | (simp only [All, inK_i64, inK_u64, inK_u32, inK_u8, inK_i32, max_i64, max_u64, IntKind.bits, Int.reduceToNat, Int.reduceAdd, Nat.reducePow, Int.reducePow, and_true, true_and, and_self] <;> omega)) ?_
  intro A w hF hH
  refine list_act hF rfl ?_
  refine op_call hF rfl rfl rfl rfl rfl rfl isF9 (made_calls hv hlen hr hH) ?_
  rintro e w ⟨κ1, mv, l1, rfl, hmv, hH⟩
  refine ⟨_, rfl, fun A hF => ?_⟩
  refine ev0 [0] tab hF hH rfl (by first | exact trivial | (simp only [All, inK_i64, inK_u64, inK_u32, inK_u8, inK_i32, max_i64, max_u64, IntKind.bits, Int.reduceToNat, Int.reduceAdd, Nat.reducePow, Int.reducePow, and_true, true_and, and_self] <;> omega)) ?_
  intro A w hF hH
  refine wpList_nil ?_
  refine wp_seq ?_
  refine wp_region_lit ?_
  refine ev0 [0, 1, 0, 0, 0] tab hF hH rfl (by first | exact trivial | (simp only [All, inK_i64, inK_u64, inK_u32, inK_u8, inK_i32, max_i64, max_u64, IntKind.bits, Int.reduceToNat, Int.reduceAdd, Nat.reducePow, Int.reducePow, and_true, true_and, and_self] <;> omega)) ?_
  intro A w hF hH
  simp only [Int.reduceToNat, hb1] at hF
  refine wpList_nil ?_
  refine wp_seq ?_
  refine wp_region_lit ?_
  generalize hk : at_ % 101 = a0 at *
  generalize madeF l = ps at *
  by_cases he : (weightF ps).2.2 = 0
  · refine ev0 [0, 0] tab hF hH rfl (by first | exact trivial | (simp only [All, inK_i64, inK_u64, inK_u32, inK_u8, inK_i32, max_i64, max_u64, IntKind.bits, Int.reduceToNat, Int.reduceAdd, Nat.reducePow, Int.reducePow, and_true, true_and, and_self] <;> omega)) ?_
    intro A w hF hH
    refine list_act hF rfl ?_
    refine op_call hF rfl rfl rfl rfl rfl rfl isF11 (new_calls (at_ := a0) hmv hp hl8 he (by omega) (by omega) hH) ?_
    rintro e w ⟨sa, rfl, hH⟩
    refine ⟨_, rfl, fun A hF => ?_⟩
    refine ev0 [0] tab hF hH rfl (by first | exact trivial | (simp only [All, inK_i64, inK_u64, inK_u32, inK_u8, inK_i32, max_i64, max_u64, IntKind.bits, Int.reduceToNat, Int.reduceAdd, Nat.reducePow, Int.reducePow, and_true, true_and, and_self] <;> omega)) ?_
    intro A w hF hH
    refine wpList_nil ?_
    refine wp_seq ?_
    refine wp_region_lit ?_
    refine ev0 [0] tab hF hH rfl (by first | exact trivial | (simp only [All, inK_i64, inK_u64, inK_u32, inK_u8, inK_i32, max_i64, max_u64, IntKind.bits, Int.reduceToNat, Int.reduceAdd, Nat.reducePow, Int.reducePow, and_true, true_and, and_self] <;> omega)) ?_
    intro A w hF hH
    refine list_act hF rfl ?_
    refine op_call hF rfl rfl rfl rfl rfl rfl isF19 (rweight_calls hmv hp hl8 hH) ?_
    rintro e w ⟨wx, wy, rfl, hH⟩
    refine ⟨_, rfl, fun A hF => ?_⟩
    rw [he] at hF
    refine ev0 [0, 0, 0] tab hF hH rfl (by first | exact trivial | (simp only [All, inK_i64, inK_u64, inK_u32, inK_u8, inK_i32, max_i64, max_u64, IntKind.bits, Int.reduceToNat, Int.reduceAdd, Nat.reducePow, Int.reducePow, and_true, true_and, and_self] <;> omega)) ?_
    intro A w hF hH
    refine list_act hF rfl ?_
    refine op_alloc hF tab rfl rfl rfl rfl rfl hH ?_
    intro b11 A w hF hH
    refine evM [⟨b11, [.int .i64 0, .int .i64 0], 28⟩] [0, 0] tab hF hH rfl (by first | exact trivial | (simp only [All, inK_i64, inK_u64, inK_u32, inK_u8, inK_i32, max_i64, max_u64, IntKind.bits, Int.reduceToNat, Int.reduceAdd, Nat.reducePow, Int.reducePow, and_true, true_and, and_self] <;> omega)) ?_
    intro A w hF hH
    refine wpList_nil ?_
    refine wp_seq ?_
    refine wp_seq ?_
    refine wp_region_lit ?_
    have hH := hH.tail
    refine ev0 [0, 2] tab hF hH rfl (by first | exact trivial | (simp only [All, inK_i64, inK_u64, inK_u32, inK_u8, inK_i32, max_i64, max_u64, IntKind.bits, Int.reduceToNat, Int.reduceAdd, Nat.reducePow, Int.reducePow, and_true, true_and, and_self] <;> omega)) ?_
    intro A w hF hH
    refine wpList_nil ?_
    refine cond_f hF rfl rfl ?_
    refine wp_skip ?_
    refine wp_seq ?_
    refine wp_seq ?_
    refine wp_region_lit ?_
    refine ev0 [0, 0] tab hF hH rfl (by first | exact trivial | (simp only [All, inK_i64, inK_u64, inK_u32, inK_u8, inK_i32, max_i64, max_u64, IntKind.bits, Int.reduceToNat, Int.reduceAdd, Nat.reducePow, Int.reducePow, and_true, true_and, and_self] <;> omega)) ?_
    intro A w hF hH
    refine wpList_nil ?_
    refine cond_f hF rfl rfl ?_
    refine wp_skip ?_
    refine wp_seq ?_
    refine wp_region_lit ?_
    refine ev0 [0, 0] tab hF hH rfl (by first | exact trivial | (simp only [All, inK_i64, inK_u64, inK_u32, inK_u8, inK_i32, max_i64, max_u64, IntKind.bits, Int.reduceToNat, Int.reduceAdd, Nat.reducePow, Int.reducePow, and_true, true_and, and_self] <;> omega)) ?_
    intro A w hF hH
    refine list_act hF rfl ?_
    refine op_call hF rfl rfl rfl rfl rfl rfl isF20 (rnew_calls hmv hH) ?_
    rintro e w ⟨r, rfl, hH⟩
    refine ⟨_, rfl, fun A hF => ?_⟩
    have hH := hH.swap
    refine ev0 [0] tab hF hH rfl (by first | exact trivial | (simp only [All, inK_i64, inK_u64, inK_u32, inK_u8, inK_i32, max_i64, max_u64, IntKind.bits, Int.reduceToNat, Int.reduceAdd, Nat.reducePow, Int.reducePow, and_true, true_and, and_self] <;> omega)) ?_
    intro A w hF hH
    refine wpList_nil ?_
    refine wp_seq ?_
    refine wp_region_lit ?_
    refine ev0 [0, 0] tab hF hH rfl (by first | exact trivial | (simp only [All, inK_i64, inK_u64, inK_u32, inK_u8, inK_i32, max_i64, max_u64, IntKind.bits, Int.reduceToNat, Int.reduceAdd, Nat.reducePow, Int.reducePow, and_true, true_and, and_self] <;> omega)) ?_
    intro A w hF hH
    refine wpList_nil ?_
    refine wp_seq ?_
    refine wp_seq ?_
    refine wp_region_lit ?_
    refine ev0 [0] tab hF hH rfl (by first | exact trivial | (simp only [All, inK_i64, inK_u64, inK_u32, inK_u8, inK_i32, max_i64, max_u64, IntKind.bits, Int.reduceToNat, Int.reduceAdd, Nat.reducePow, Int.reducePow, and_true, true_and, and_self] <;> omega)) ?_
    intro A w hF hH
    refine wpList_nil ?_
    refine wp_block ?_
    have hf0 := Fit.new hp (a0 := a0) (by omega) (by omega) a0
    obtain ⟨g1, g2, g3⟩ := newS_inv hp a0
    have h0 : 0 ≤ a0 := hK0
    refine loop_j (fun (i : Nat) A w => i ≤ min gs.length 60 ∧ ∃ (now : Int), ∃ S : Sup, -(8 * (i : Int)) ≤ now ∧ now ≤ 100 + 8 * (i : Int) ∧ a0 ≤ S.last ∧ S.last ≤ 100 + 8 * (i : Int) ∧ bs S = ps ∧ Fit a0 i S.last S ∧ Fr 125 A [(15, .int .i64 i), (14, .int .i64 now), (13, .pointer (some ⟨r, 0, none⟩)), (10, .pointer (some ⟨sa, 0, none⟩)), (7, .bool true), (2, .slice G0 gs.length gcap)] ∧ Hp κ1 w (sup sa S :: row r (rcells mv a0 S) 56 :: [])) (fun i => 60 - i) 0 ⟨Nat.zero_le _, a0, newS a0 ps, by omega, by omega, Int.le_refl _, by show a0 ≤ _; omega, g2, hf0, Fr.to hF ⟨rfl, rfl, rfl, rfl, rfl, rfl, trivial⟩, hH⟩ ?_
    rintro i A w ⟨hi, now, S, hnow0, hnow1, hal, hla, hbs, hf, hF, hH⟩
    refine wp_seq ?_
    refine wp_seq ?_
    refine wp_region_lit ?_
    by_cases hlt : i < min gs.length 60
    · refine ev0 [0, 0, 0, 1, 0, 0, 1, 0] tab hF hH rfl (by first | exact trivial | (simp only [All, inK_i64, inK_u64, inK_u32, inK_u8, inK_i32, max_i64, max_u64, IntKind.bits, Int.reduceToNat, Int.reduceAdd, Nat.reducePow, Int.reducePow, and_true, true_and, and_self] <;> omega)) ?_
      intro A w hF hH
      refine wpList_nil ?_
      refine cond_t hF rfl rfl ?_
      refine wp_skip ?_
      refine wp_seq ?_
      refine wp_block ?_
      refine wp_seq ?_
      refine wp_region_lit ?_
      obtain ⟨b0, off0, rfl⟩ := hg.addr (by omega)
      have hgl : i < gs.length := by omega
      have hat := (hg.mono l1).at_ (fun _ _ => rfl) i hgl
      generalize gs[i] = g at *
      have hg0 := Int.lt_tmod_of_pos g (b := 9) (by omega)
      have hg1 := Int.tmod_lt_of_pos g (b := 9) (by omega)
      have hS8 : S.ps.length ≤ 8 := by rw [← bs_len, hbs]; exact hl8
      have hmvb : Rd κ1 [] 2 wenc mv (bs S) := by rw [hbs]; exact hmv
      have hs1 := hf.si
      have hs2 := hf.s0
      have hs3 := hf.i0
      have hpf := hf.pfit (by omega)
      refine evF [] [] (LFok.cons hat (LFok.nil _ _)) [0, 0, 0, 0, 1, 1, 0, 0] tab hF hH rfl (by first | exact trivial | (simp only [All, inK_i64, inK_u64, inK_u32, inK_u8, inK_i32, max_i64, max_u64, IntKind.bits, Int.reduceToNat, Int.reduceAdd, Nat.reducePow, Int.reducePow, and_true, true_and, and_self] <;> omega)) ?_
      intro A w hF hH
      refine wpList_nil ?_
      refine wp_seq ?_
      refine wp_region_lit ?_
      generalize ht : now + g.tmod 9 = t at *
      obtain ⟨hgi, hal2, hla2, hbsg⟩ := hf.any hal t (by omega) (by omega)
      have hbs2 := hbsg.trans hbs
      have hmvb2 : Rd κ1 [] 2 wenc mv (bs (grantF S t).1) := by rw [hbs2]; exact hmv
      have hS8b : (grantF S t).1.ps.length ≤ 8 := by rw [← bs_len, hbs2]; exact hl8
      have hpf2 := hgi.pfit (by omega)
      refine ev0 [0, 0] tab hF hH rfl (by first | exact trivial | (simp only [All, inK_i64, inK_u64, inK_u32, inK_u8, inK_i32, max_i64, max_u64, IntKind.bits, Int.reduceToNat, Int.reduceAdd, Nat.reducePow, Int.reducePow, and_true, true_and, and_self] <;> omega)) ?_
      intro A w hF hH
      refine list_act hF rfl ?_
      refine op_call hF rfl rfl rfl rfl rfl rfl isF14 (grant_calls t hpf hS8 ⟨hs2, by omega⟩ ⟨hs3, by omega⟩ hH) ?_
      rintro e w ⟨rfl, hH⟩
      refine ⟨_, rfl, fun A hF => ?_⟩
      cases hres : (grantF S t).2 with
      | none =>
        rw [hres] at hF
        refine ev0 [0, 0, 0] tab hF hH rfl (by first | exact trivial | (simp only [All, inK_i64, inK_u64, inK_u32, inK_u8, inK_i32, max_i64, max_u64, IntKind.bits, Int.reduceToNat, Int.reduceAdd, Nat.reducePow, Int.reducePow, and_true, true_and, and_self] <;> omega)) ?_
        intro A w hF hH
        refine list_act hF rfl ?_
        refine op_alloc hF tab rfl rfl rfl rfl rfl hH ?_
        intro b16 A w hF hH
        refine evM [⟨b16, jenc zeroJ, 40⟩] [0, 0] tab hF hH rfl (by first | exact trivial | (simp only [All, inK_i64, inK_u64, inK_u32, inK_u8, inK_i32, max_i64, max_u64, IntKind.bits, Int.reduceToNat, Int.reduceAdd, Nat.reducePow, Int.reducePow, and_true, true_and, and_self] <;> omega)) ?_
        intro A w hF hH
        refine wpList_nil ?_
        refine wp_seq ?_
        refine wp_region_lit ?_
        have hH : Hp κ1 _ (row b16 (jenc zeroJ) 40 :: sup sa (grantF S t).1 :: row r (rcells mv a0 S) 56 :: []) := hH
        have hH := hH.focus 2 rfl
        refine ev0 [0, 0] tab hF hH rfl (by first | exact trivial | (simp only [All, inK_i64, inK_u64, inK_u32, inK_u8, inK_i32, max_i64, max_u64, IntKind.bits, Int.reduceToNat, Int.reduceAdd, Nat.reducePow, Int.reducePow, and_true, true_and, and_self] <;> omega)) ?_
        intro A w hF hH
        refine list_act hF rfl ?_
        refine op_call hF rfl rfl rfl rfl rfl rfl isF21 (rgrant_calls t hmvb hf.inv hpf hS8 h0 hal ⟨hs2, by omega⟩ ⟨hs3, by omega⟩ hH) ?_
        rintro e w ⟨rfl, hH⟩
        refine ⟨_, rfl, fun A hF => ?_⟩
        rw [hres] at hF
        refine ev0 [0, 0, 0] tab hF hH rfl (by first | exact trivial | (simp only [All, inK_i64, inK_u64, inK_u32, inK_u8, inK_i32, max_i64, max_u64, IntKind.bits, Int.reduceToNat, Int.reduceAdd, Nat.reducePow, Int.reducePow, and_true, true_and, and_self] <;> omega)) ?_
        intro A w hF hH
        refine list_act hF rfl ?_
        refine op_alloc hF tab rfl rfl rfl rfl rfl hH ?_
        intro b18 A w hF hH
        refine evM [⟨b18, jenc zeroJ, 40⟩] [0, 0] tab hF hH rfl (by first | exact trivial | (simp only [All, inK_i64, inK_u64, inK_u32, inK_u8, inK_i32, max_i64, max_u64, IntKind.bits, Int.reduceToNat, Int.reduceAdd, Nat.reducePow, Int.reducePow, and_true, true_and, and_self] <;> omega)) ?_
        intro A w hF hH
        refine wpList_nil ?_
        refine wp_seq ?_
        refine wp_region_lit ?_
        have hH : Hp κ1 _ (row b18 (jenc zeroJ) 40 :: row r (rcells mv a0 (grantF S t).1) 56 :: row b16 (jenc zeroJ) 40 :: sup sa (grantF S t).1 :: []) := hH
        have hH := hH.focus 3 rfl
        refine ev0 [0, 0] tab hF hH rfl (by first | exact trivial | (simp only [All, inK_i64, inK_u64, inK_u32, inK_u8, inK_i32, max_i64, max_u64, IntKind.bits, Int.reduceToNat, Int.reduceAdd, Nat.reducePow, Int.reducePow, and_true, true_and, and_self] <;> omega)) ?_
        intro A w hF hH
        refine list_act hF rfl ?_
        refine op_call hF rfl rfl rfl rfl rfl rfl isF18 (jobs_any t h0 hgi.inv.mem hS8b hH) ?_
        rintro e w ⟨jv, JJ, rfl, hJ1, hJ2, hH⟩
        refine ⟨_, rfl, fun A hF => ?_⟩
        obtain ⟨JA, jcap, rfl⟩ := osl_form hH
        have hH := hH.focus 3 rfl
        refine ev0 [0, 0] tab hF hH rfl (by first | exact trivial | (simp only [All, inK_i64, inK_u64, inK_u32, inK_u8, inK_i32, max_i64, max_u64, IntKind.bits, Int.reduceToNat, Int.reduceAdd, Nat.reducePow, Int.reducePow, and_true, true_and, and_self] <;> omega)) ?_
        intro A w hF hH
        refine list_act hF rfl ?_
        refine op_call hF rfl rfl rfl rfl rfl rfl isF23 (rjobs_calls t hmvb2 hgi.inv hpf2 hS8b h0 hal2 hH) ?_
        rintro e w ⟨jv2, OO, rfl, hO1, hO2, hH⟩
        refine ⟨_, rfl, fun A hF => ?_⟩
        obtain ⟨OA, ocap, rfl⟩ := osl_form hH
        have hJO : JJ = OO := by
          by_cases hsl : (grantF S t).1.last ≤ t ∧ t ≤ 1099511627776
          · exact rel_unique hgi.inv (hJ1 hsl).1 (hO1 hsl).1 (hJ1 hsl).2 (hO1 hsl).2
          · rw [hJ2 hsl, hO2 hsl]
        subst hJO
        have hJl : JJ.length ≤ 1000000 := by
          by_cases hsl : (grantF S t).1.last ≤ t ∧ t ≤ 1099511627776
          · have := (hJ1 hsl).1.length_eq; have := relL_len t (grantF S t).1.ps; omega
          · rw [hJ2 hsl]; simp
        have hH := hH.focus 2 rfl
        refine list_act hF rfl ?_
        refine op_call hF rfl rfl rfl rfl rfl rfl isF22 (same_calls JJ hJl hH) ?_
        rintro e w ⟨rfl, hH⟩
        refine ⟨_, rfl, fun A hF => ?_⟩
        refine ev0 [0] tab hF hH rfl (by first | exact trivial | (simp only [All, inK_i64, inK_u64, inK_u32, inK_u8, inK_i32, max_i64, max_u64, IntKind.bits, Int.reduceToNat, Int.reduceAdd, Nat.reducePow, Int.reducePow, and_true, true_and, and_self] <;> omega)) ?_
        intro A w hF hH
        refine wpList_nil ?_
        refine wp_seq ?_
        have hH := ((hH.focus 3 rfl).focus 1 rfl).focus 2 rfl
        refine dr_reads (by kernel_rfl) [] [sup sa (grantF S t).1, row r (rcells mv a0 (grantF S t).1) 56, row b16 (jenc zeroJ) 40, row b18 (jenc zeroJ) 40] [] [(0, 1), (1, 3)] 37 tab (LFok.cons (At.own (off := 0) (vs := (jenc zeroJ)) 2 rfl (fun j u h => by rw [Nat.zero_add]; exact h)) (LFok.cons (At.own (off := 0) (vs := (jenc zeroJ)) 3 rfl (fun j u h => by rw [Nat.zero_add]; exact h)) (LFok.nil _ _))) (by kernel_rfl) rfl hF hH (by kernel_rfl) rfl (by first | exact trivial | (simp only [All, inK_i64, inK_u64, inK_u32, inK_u8, inK_i32, max_i64, max_u64, IntKind.bits, Int.reduceToNat, Int.reduceAdd, Nat.reducePow, Int.reducePow, and_true, true_and, and_self] <;> omega)) ?_
        intro A w hF hH
        refine dr_act (k := 2) (by kernel_rfl) rfl hF rfl ?_
        refine op_neS [.i64, .i64, .i64, .i64, .i64] hF rfl rfl rfl rfl rfl (by kernel_rfl) rfl rfl ?_
        intro rr A hr hF
        refine ⟨fun _ => Keeps.of hH (K.le.refl _), ?_⟩
        have hr : rr = false := by
          cases rr with
          | false => rfl
          | true => exact absurd rfl (hr.1 rfl)
        subst hr
        refine dr_more [] [sup sa (grantF S t).1, row r (rcells mv a0 (grantF S t).1) 56, row b16 (jenc zeroJ) 40, row b18 (jenc zeroJ) 40] [(3, 0), (4, 0), (5, 0), (6, 0), (7, 0), (8, 0), (9, 0), (10, 0), (11, 0), (12, 0), (13, 0), (14, 0), (16, 0), (17, 0)] 22 (K.le.refl _) tab (LFok.nil _ _) (by kernel_rfl) rfl hF hH (by kernel_rfl) rfl (by first | exact trivial | (simp only [All, inK_i64, inK_u64, inK_u32, inK_u8, inK_i32, max_i64, max_u64, IntKind.bits, Int.reduceToNat, Int.reduceAdd, Nat.reducePow, Int.reducePow, and_true, true_and, and_self] <;> omega)) ?_
        intro A hF
        refine dr_act (k := 15) (by kernel_rfl) rfl hF rfl ?_
        refine op_call hF rfl rfl rfl rfl rfl rfl isF13 (missed_calls t hpf2 hS8b hH) ?_
        rintro e w ⟨rfl, hH⟩
        refine ⟨_, rfl, fun A hF => ?_⟩
        refine ⟨fun _ => Keeps.of hH (K.le.refl _), ?_⟩
        have hH := hH.swap
        refine dr_act (k := 18) (by kernel_rfl) rfl hF rfl ?_
        refine op_call hF rfl rfl rfl rfl rfl rfl isF24 (rmissed_calls t hmvb2 hgi.inv.mem hpf2 hS8b h0 hal2 hH) ?_
        rintro e w ⟨rfl, hH⟩
        have hH := hH.swap
        refine ⟨_, rfl, fun A hF => ?_⟩
        refine ⟨fun _ => Keeps.of hH (K.le.refl _), ?_⟩
        refine dr_more [] [sup sa (grantF S t).1, row r (rcells mv a0 (grantF S t).1) 56, row b16 (jenc zeroJ) 40, row b18 (jenc zeroJ) 40] [(19, 2), (20, 0), (21, 0), (22, 0), (24, 0), (25, 0), (26, 0), (27, 1)] 12 (K.le.refl _) tab (LFok.cons (At.own (off := 11) (vs := [.int .i64 (grantF S t).1.served]) 1 rfl (own1 rc_served)) (LFok.nil _ _)) (by kernel_rfl) rfl hF hH (by kernel_rfl) rfl (by first | exact trivial | (simp only [All, inK_i64, inK_u64, inK_u32, inK_u8, inK_i32, max_i64, max_u64, IntKind.bits, Int.reduceToNat, Int.reduceAdd, Nat.reducePow, Int.reducePow, and_true, true_and, and_self] <;> omega)) ?_
        intro A hF
        refine dr_act (k := 23) (by kernel_rfl) rfl hF rfl ?_
        refine op_call hF rfl rfl rfl rfl rfl rfl isF16 (served_calls hH) ?_
        rintro e w ⟨rfl, hH⟩
        refine ⟨_, rfl, fun A hF => ?_⟩
        refine ⟨fun _ => Keeps.of hH (K.le.refl _), ?_⟩
        refine dr_more [] [sup sa (grantF S t).1, row r (rcells mv a0 (grantF S t).1) 56, row b16 (jenc zeroJ) 40, row b18 (jenc zeroJ) 40] [(28, 2), (29, 0), (30, 0), (31, 0), (33, 0), (34, 0), (35, 0), (36, 1)] 3 (K.le.refl _) tab (LFok.cons (At.own (off := 12) (vs := [.int .i64 (grantF S t).1.idle]) 1 rfl (own1 rc_idle)) (LFok.nil _ _)) (by kernel_rfl) rfl hF hH (by kernel_rfl) rfl (by first | exact trivial | (simp only [All, inK_i64, inK_u64, inK_u32, inK_u8, inK_i32, max_i64, max_u64, IntKind.bits, Int.reduceToNat, Int.reduceAdd, Nat.reducePow, Int.reducePow, and_true, true_and, and_self] <;> omega)) ?_
        intro A hF
        refine dr_act (k := 32) (by kernel_rfl) rfl hF rfl ?_
        refine op_call hF rfl rfl rfl rfl rfl rfl isF17 (idle_calls hH) ?_
        rintro e w ⟨rfl, hH⟩
        refine ⟨_, rfl, fun A hF => ?_⟩
        refine ⟨fun _ => Keeps.of hH (K.le.refl _), ?_⟩
        refine dr_more [] [sup sa (grantF S t).1, row r (rcells mv a0 (grantF S t).1) 56, row b16 (jenc zeroJ) 40, row b18 (jenc zeroJ) 40] [(37, 2), (38, 0)] 0 (K.le.refl _) tab (LFok.nil _ _) (by kernel_rfl) rfl hF hH (by kernel_rfl) rfl (by first | exact trivial | (simp only [All, inK_i64, inK_u64, inK_u32, inK_u8, inK_i32, max_i64, max_u64, IntKind.bits, Int.reduceToNat, Int.reduceAdd, Nat.reducePow, Int.reducePow, and_true, true_and, and_self] <;> omega)) ?_
        intro A hF
        refine dr_done (by kernel_rfl) ?_ _
        refine cond_f hF rfl rfl ?_
        refine wp_skip ?_
        refine wp_region_lit ?_
        refine ev0 [0, 0, 0] tab hF hH rfl (by first | exact trivial | (simp only [All, inK_i64, inK_u64, inK_u32, inK_u8, inK_i32, max_i64, max_u64, IntKind.bits, Int.reduceToNat, Int.reduceAdd, Nat.reducePow, Int.reducePow, and_true, true_and, and_self] <;> omega)) ?_
        intro A w hF hH
        refine wpList_nil ?_
        exact ⟨i + 1, ⟨by omega, t, (grantF S t).1, by omega, by omega, hal2, by omega, hbs2, by simpa using hgi, Fr.to hF ⟨rfl, rfl, rfl, rfl, rfl, rfl, trivial⟩, ((hH.focus 2 rfl).tail.focus 2 rfl).tail⟩, by omega⟩
      | some p =>
        rw [hres] at hF
        refine ev0 [0, 0, 0] tab hF hH rfl (by first | exact trivial | (simp only [All, inK_i64, inK_u64, inK_u32, inK_u8, inK_i32, max_i64, max_u64, IntKind.bits, Int.reduceToNat, Int.reduceAdd, Nat.reducePow, Int.reducePow, and_true, true_and, and_self] <;> omega)) ?_
        intro A w hF hH
        refine list_act hF rfl ?_
        refine op_alloc hF tab rfl rfl rfl rfl rfl hH ?_
        intro b16 A w hF hH
        refine evM [⟨b16, jenc zeroJ, 40⟩] [0, 0] tab hF hH rfl (by first | exact trivial | (simp only [All, inK_i64, inK_u64, inK_u32, inK_u8, inK_i32, max_i64, max_u64, IntKind.bits, Int.reduceToNat, Int.reduceAdd, Nat.reducePow, Int.reducePow, and_true, true_and, and_self] <;> omega)) ?_
        intro A w hF hH
        refine wpList_nil ?_
        refine wp_seq ?_
        refine wp_region_lit ?_
        have hH : Hp κ1 _ (row b16 (jenc p) 40 :: sup sa (grantF S t).1 :: row r (rcells mv a0 S) 56 :: []) := hH
        have hH := hH.focus 2 rfl
        refine ev0 [0, 0] tab hF hH rfl (by first | exact trivial | (simp only [All, inK_i64, inK_u64, inK_u32, inK_u8, inK_i32, max_i64, max_u64, IntKind.bits, Int.reduceToNat, Int.reduceAdd, Nat.reducePow, Int.reducePow, and_true, true_and, and_self] <;> omega)) ?_
        intro A w hF hH
        refine list_act hF rfl ?_
        refine op_call hF rfl rfl rfl rfl rfl rfl isF21 (rgrant_calls t hmvb hf.inv hpf hS8 h0 hal ⟨hs2, by omega⟩ ⟨hs3, by omega⟩ hH) ?_
        rintro e w ⟨rfl, hH⟩
        refine ⟨_, rfl, fun A hF => ?_⟩
        rw [hres] at hF
        refine ev0 [0, 0, 0] tab hF hH rfl (by first | exact trivial | (simp only [All, inK_i64, inK_u64, inK_u32, inK_u8, inK_i32, max_i64, max_u64, IntKind.bits, Int.reduceToNat, Int.reduceAdd, Nat.reducePow, Int.reducePow, and_true, true_and, and_self] <;> omega)) ?_
        intro A w hF hH
        refine list_act hF rfl ?_
        refine op_alloc hF tab rfl rfl rfl rfl rfl hH ?_
        intro b18 A w hF hH
        refine evM [⟨b18, jenc zeroJ, 40⟩] [0, 0] tab hF hH rfl (by first | exact trivial | (simp only [All, inK_i64, inK_u64, inK_u32, inK_u8, inK_i32, max_i64, max_u64, IntKind.bits, Int.reduceToNat, Int.reduceAdd, Nat.reducePow, Int.reducePow, and_true, true_and, and_self] <;> omega)) ?_
        intro A w hF hH
        refine wpList_nil ?_
        refine wp_seq ?_
        refine wp_region_lit ?_
        have hH : Hp κ1 _ (row b18 (jenc p) 40 :: row r (rcells mv a0 (grantF S t).1) 56 :: row b16 (jenc p) 40 :: sup sa (grantF S t).1 :: []) := hH
        have hH := hH.focus 3 rfl
        refine ev0 [0, 0] tab hF hH rfl (by first | exact trivial | (simp only [All, inK_i64, inK_u64, inK_u32, inK_u8, inK_i32, max_i64, max_u64, IntKind.bits, Int.reduceToNat, Int.reduceAdd, Nat.reducePow, Int.reducePow, and_true, true_and, and_self] <;> omega)) ?_
        intro A w hF hH
        refine list_act hF rfl ?_
        refine op_call hF rfl rfl rfl rfl rfl rfl isF18 (jobs_any t h0 hgi.inv.mem hS8b hH) ?_
        rintro e w ⟨jv, JJ, rfl, hJ1, hJ2, hH⟩
        refine ⟨_, rfl, fun A hF => ?_⟩
        obtain ⟨JA, jcap, rfl⟩ := osl_form hH
        have hH := hH.focus 3 rfl
        refine ev0 [0, 0] tab hF hH rfl (by first | exact trivial | (simp only [All, inK_i64, inK_u64, inK_u32, inK_u8, inK_i32, max_i64, max_u64, IntKind.bits, Int.reduceToNat, Int.reduceAdd, Nat.reducePow, Int.reducePow, and_true, true_and, and_self] <;> omega)) ?_
        intro A w hF hH
        refine list_act hF rfl ?_
        refine op_call hF rfl rfl rfl rfl rfl rfl isF23 (rjobs_calls t hmvb2 hgi.inv hpf2 hS8b h0 hal2 hH) ?_
        rintro e w ⟨jv2, OO, rfl, hO1, hO2, hH⟩
        refine ⟨_, rfl, fun A hF => ?_⟩
        obtain ⟨OA, ocap, rfl⟩ := osl_form hH
        have hJO : JJ = OO := by
          by_cases hsl : (grantF S t).1.last ≤ t ∧ t ≤ 1099511627776
          · exact rel_unique hgi.inv (hJ1 hsl).1 (hO1 hsl).1 (hJ1 hsl).2 (hO1 hsl).2
          · rw [hJ2 hsl, hO2 hsl]
        subst hJO
        have hJl : JJ.length ≤ 1000000 := by
          by_cases hsl : (grantF S t).1.last ≤ t ∧ t ≤ 1099511627776
          · have := (hJ1 hsl).1.length_eq; have := relL_len t (grantF S t).1.ps; omega
          · rw [hJ2 hsl]; simp
        have hH := hH.focus 2 rfl
        refine list_act hF rfl ?_
        refine op_call hF rfl rfl rfl rfl rfl rfl isF22 (same_calls JJ hJl hH) ?_
        rintro e w ⟨rfl, hH⟩
        refine ⟨_, rfl, fun A hF => ?_⟩
        refine ev0 [0] tab hF hH rfl (by first | exact trivial | (simp only [All, inK_i64, inK_u64, inK_u32, inK_u8, inK_i32, max_i64, max_u64, IntKind.bits, Int.reduceToNat, Int.reduceAdd, Nat.reducePow, Int.reducePow, and_true, true_and, and_self] <;> omega)) ?_
        intro A w hF hH
        refine wpList_nil ?_
        refine wp_seq ?_
        have hH := ((hH.focus 3 rfl).focus 1 rfl).focus 2 rfl
        refine dr_reads (by kernel_rfl) [] [sup sa (grantF S t).1, row r (rcells mv a0 (grantF S t).1) 56, row b16 (jenc p) 40, row b18 (jenc p) 40] [] [(0, 1), (1, 3)] 37 tab (LFok.cons (At.own (off := 0) (vs := (jenc p)) 2 rfl (fun j u h => by rw [Nat.zero_add]; exact h)) (LFok.cons (At.own (off := 0) (vs := (jenc p)) 3 rfl (fun j u h => by rw [Nat.zero_add]; exact h)) (LFok.nil _ _))) (by kernel_rfl) rfl hF hH (by kernel_rfl) rfl (by first | exact trivial | (simp only [All, inK_i64, inK_u64, inK_u32, inK_u8, inK_i32, max_i64, max_u64, IntKind.bits, Int.reduceToNat, Int.reduceAdd, Nat.reducePow, Int.reducePow, and_true, true_and, and_self] <;> omega)) ?_
        intro A w hF hH
        refine dr_act (k := 2) (by kernel_rfl) rfl hF rfl ?_
        refine op_neS [.i64, .i64, .i64, .i64, .i64] hF rfl rfl rfl rfl rfl (by kernel_rfl) rfl rfl ?_
        intro rr A hr hF
        refine ⟨fun _ => Keeps.of hH (K.le.refl _), ?_⟩
        have hr : rr = false := by
          cases rr with
          | false => rfl
          | true => exact absurd rfl (hr.1 rfl)
        subst hr
        refine dr_more [] [sup sa (grantF S t).1, row r (rcells mv a0 (grantF S t).1) 56, row b16 (jenc p) 40, row b18 (jenc p) 40] [(3, 0), (4, 0), (5, 0), (6, 0), (7, 0), (8, 0), (9, 0), (10, 0), (11, 0), (12, 0), (13, 0), (14, 0), (16, 0), (17, 0)] 22 (K.le.refl _) tab (LFok.nil _ _) (by kernel_rfl) rfl hF hH (by kernel_rfl) rfl (by first | exact trivial | (simp only [All, inK_i64, inK_u64, inK_u32, inK_u8, inK_i32, max_i64, max_u64, IntKind.bits, Int.reduceToNat, Int.reduceAdd, Nat.reducePow, Int.reducePow, and_true, true_and, and_self] <;> omega)) ?_
        intro A hF
        refine dr_act (k := 15) (by kernel_rfl) rfl hF rfl ?_
        refine op_call hF rfl rfl rfl rfl rfl rfl isF13 (missed_calls t hpf2 hS8b hH) ?_
        rintro e w ⟨rfl, hH⟩
        refine ⟨_, rfl, fun A hF => ?_⟩
        refine ⟨fun _ => Keeps.of hH (K.le.refl _), ?_⟩
        have hH := hH.swap
        refine dr_act (k := 18) (by kernel_rfl) rfl hF rfl ?_
        refine op_call hF rfl rfl rfl rfl rfl rfl isF24 (rmissed_calls t hmvb2 hgi.inv.mem hpf2 hS8b h0 hal2 hH) ?_
        rintro e w ⟨rfl, hH⟩
        have hH := hH.swap
        refine ⟨_, rfl, fun A hF => ?_⟩
        refine ⟨fun _ => Keeps.of hH (K.le.refl _), ?_⟩
        refine dr_more [] [sup sa (grantF S t).1, row r (rcells mv a0 (grantF S t).1) 56, row b16 (jenc p) 40, row b18 (jenc p) 40] [(19, 2), (20, 0), (21, 0), (22, 0), (24, 0), (25, 0), (26, 0), (27, 1)] 12 (K.le.refl _) tab (LFok.cons (At.own (off := 11) (vs := [.int .i64 (grantF S t).1.served]) 1 rfl (own1 rc_served)) (LFok.nil _ _)) (by kernel_rfl) rfl hF hH (by kernel_rfl) rfl (by first | exact trivial | (simp only [All, inK_i64, inK_u64, inK_u32, inK_u8, inK_i32, max_i64, max_u64, IntKind.bits, Int.reduceToNat, Int.reduceAdd, Nat.reducePow, Int.reducePow, and_true, true_and, and_self] <;> omega)) ?_
        intro A hF
        refine dr_act (k := 23) (by kernel_rfl) rfl hF rfl ?_
        refine op_call hF rfl rfl rfl rfl rfl rfl isF16 (served_calls hH) ?_
        rintro e w ⟨rfl, hH⟩
        refine ⟨_, rfl, fun A hF => ?_⟩
        refine ⟨fun _ => Keeps.of hH (K.le.refl _), ?_⟩
        refine dr_more [] [sup sa (grantF S t).1, row r (rcells mv a0 (grantF S t).1) 56, row b16 (jenc p) 40, row b18 (jenc p) 40] [(28, 2), (29, 0), (30, 0), (31, 0), (33, 0), (34, 0), (35, 0), (36, 1)] 3 (K.le.refl _) tab (LFok.cons (At.own (off := 12) (vs := [.int .i64 (grantF S t).1.idle]) 1 rfl (own1 rc_idle)) (LFok.nil _ _)) (by kernel_rfl) rfl hF hH (by kernel_rfl) rfl (by first | exact trivial | (simp only [All, inK_i64, inK_u64, inK_u32, inK_u8, inK_i32, max_i64, max_u64, IntKind.bits, Int.reduceToNat, Int.reduceAdd, Nat.reducePow, Int.reducePow, and_true, true_and, and_self] <;> omega)) ?_
        intro A hF
        refine dr_act (k := 32) (by kernel_rfl) rfl hF rfl ?_
        refine op_call hF rfl rfl rfl rfl rfl rfl isF17 (idle_calls hH) ?_
        rintro e w ⟨rfl, hH⟩
        refine ⟨_, rfl, fun A hF => ?_⟩
        refine ⟨fun _ => Keeps.of hH (K.le.refl _), ?_⟩
        refine dr_more [] [sup sa (grantF S t).1, row r (rcells mv a0 (grantF S t).1) 56, row b16 (jenc p) 40, row b18 (jenc p) 40] [(37, 2), (38, 0)] 0 (K.le.refl _) tab (LFok.nil _ _) (by kernel_rfl) rfl hF hH (by kernel_rfl) rfl (by first | exact trivial | (simp only [All, inK_i64, inK_u64, inK_u32, inK_u8, inK_i32, max_i64, max_u64, IntKind.bits, Int.reduceToNat, Int.reduceAdd, Nat.reducePow, Int.reducePow, and_true, true_and, and_self] <;> omega)) ?_
        intro A hF
        refine dr_done (by kernel_rfl) ?_ _
        refine cond_f hF rfl rfl ?_
        refine wp_skip ?_
        refine wp_region_lit ?_
        refine ev0 [0, 0, 0] tab hF hH rfl (by first | exact trivial | (simp only [All, inK_i64, inK_u64, inK_u32, inK_u8, inK_i32, max_i64, max_u64, IntKind.bits, Int.reduceToNat, Int.reduceAdd, Nat.reducePow, Int.reducePow, and_true, true_and, and_self] <;> omega)) ?_
        intro A w hF hH
        refine wpList_nil ?_
        exact ⟨i + 1, ⟨by omega, t, (grantF S t).1, by omega, by omega, hal2, by omega, hbs2, by simpa using hgi, Fr.to hF ⟨rfl, rfl, rfl, rfl, rfl, rfl, trivial⟩, ((hH.focus 2 rfl).tail.focus 2 rfl).tail⟩, by omega⟩
    · have hcase : (i : Int) < gs.length ∧ ¬ (i : Int) < 60 ∨ ¬ (i : Int) < gs.length := by omega
      rcases hcase with hc | hc
      · skip
        refine ev0 [0, 0, 0, 1, 0, 0, 2, 0] tab hF hH rfl (by first | exact trivial | (simp only [All, inK_i64, inK_u64, inK_u32, inK_u8, inK_i32, max_i64, max_u64, IntKind.bits, Int.reduceToNat, Int.reduceAdd, Nat.reducePow, Int.reducePow, and_true, true_and, and_self] <;> omega)) ?_
        intro A w hF hH
        refine wpList_nil ?_
        refine cond_f hF rfl rfl ?_
        refine wp_exit ?_
        repeat (first | refine then_exit ?_ | refine ng_exit ?_ | refine blk_exit ?_ | refine blk_exit_ne rfl ?_)
        refine wp_seq ?_
        refine wp_region_lit ?_
        refine ev0 [0, 0] tab hF hH rfl (by first | exact trivial | (simp only [All, inK_i64, inK_u64, inK_u32, inK_u8, inK_i32, max_i64, max_u64, IntKind.bits, Int.reduceToNat, Int.reduceAdd, Nat.reducePow, Int.reducePow, and_true, true_and, and_self] <;> omega)) ?_
        intro A w hF hH
        refine wpList_nil ?_
        refine wp_ret ?_
        repeat (first | refine then_ret ?_ | refine blk_ret ?_ | refine ng_ret ?_)
        refine ret (M := []) (hs := []) tab hF hH rfl (by first | exact trivial | (simp only [All, inK_i64, inK_u64, inK_u32, inK_u8, inK_i32, max_i64, max_u64, IntKind.bits, Int.reduceToNat, Int.reduceAdd, Nat.reducePow, Int.reducePow, and_true, true_and, and_self] <;> omega)) ?_
        exact ⟨rfl, (hH.lower l1).tail.tail⟩
      · skip
        refine ev0 [0, 0, 0, 2, 0, 0, 0, 0] tab hF hH rfl (by first | exact trivial | (simp only [All, inK_i64, inK_u64, inK_u32, inK_u8, inK_i32, max_i64, max_u64, IntKind.bits, Int.reduceToNat, Int.reduceAdd, Nat.reducePow, Int.reducePow, and_true, true_and, and_self] <;> omega)) ?_
        intro A w hF hH
        refine wpList_nil ?_
        refine cond_f hF rfl rfl ?_
        refine wp_exit ?_
        repeat (first | refine then_exit ?_ | refine ng_exit ?_ | refine blk_exit ?_ | refine blk_exit_ne rfl ?_)
        refine wp_seq ?_
        refine wp_region_lit ?_
        refine ev0 [0, 0] tab hF hH rfl (by first | exact trivial | (simp only [All, inK_i64, inK_u64, inK_u32, inK_u8, inK_i32, max_i64, max_u64, IntKind.bits, Int.reduceToNat, Int.reduceAdd, Nat.reducePow, Int.reducePow, and_true, true_and, and_self] <;> omega)) ?_
        intro A w hF hH
        refine wpList_nil ?_
        refine wp_ret ?_
        repeat (first | refine then_ret ?_ | refine blk_ret ?_ | refine ng_ret ?_)
        refine ret (M := []) (hs := []) tab hF hH rfl (by first | exact trivial | (simp only [All, inK_i64, inK_u64, inK_u32, inK_u8, inK_i32, max_i64, max_u64, IntKind.bits, Int.reduceToNat, Int.reduceAdd, Nat.reducePow, Int.reducePow, and_true, true_and, and_self] <;> omega)) ?_
        exact ⟨rfl, (hH.lower l1).tail.tail⟩
  · skip
    refine ev0 [0, 0] tab hF hH rfl (by first | exact trivial | (simp only [All, inK_i64, inK_u64, inK_u32, inK_u8, inK_i32, max_i64, max_u64, IntKind.bits, Int.reduceToNat, Int.reduceAdd, Nat.reducePow, Int.reducePow, and_true, true_and, and_self] <;> omega)) ?_
    intro A w hF hH
    refine list_act hF rfl ?_
    refine op_call hF rfl rfl rfl rfl rfl rfl isF11 (new_nil_calls a0 hmv hp hl8 he hH) ?_
    rintro e w ⟨rfl, hH⟩
    refine ⟨_, rfl, fun A hF => ?_⟩
    refine ev0 [0] tab hF hH rfl (by first | exact trivial | (simp only [All, inK_i64, inK_u64, inK_u32, inK_u8, inK_i32, max_i64, max_u64, IntKind.bits, Int.reduceToNat, Int.reduceAdd, Nat.reducePow, Int.reducePow, and_true, true_and, and_self] <;> omega)) ?_
    intro A w hF hH
    refine wpList_nil ?_
    refine wp_seq ?_
    refine wp_region_lit ?_
    refine ev0 [0] tab hF hH rfl (by first | exact trivial | (simp only [All, inK_i64, inK_u64, inK_u32, inK_u8, inK_i32, max_i64, max_u64, IntKind.bits, Int.reduceToNat, Int.reduceAdd, Nat.reducePow, Int.reducePow, and_true, true_and, and_self] <;> omega)) ?_
    intro A w hF hH
    refine list_act hF rfl ?_
    refine op_call hF rfl rfl rfl rfl rfl rfl isF19 (rweight_calls hmv hp hl8 hH) ?_
    rintro e w ⟨wx, wy, rfl, hH⟩
    refine ⟨_, rfl, fun A hF => ?_⟩
    refine ev0 [0, 0, 0] tab hF hH rfl (by first | exact trivial | (simp only [All, inK_i64, inK_u64, inK_u32, inK_u8, inK_i32, max_i64, max_u64, IntKind.bits, Int.reduceToNat, Int.reduceAdd, Nat.reducePow, Int.reducePow, and_true, true_and, and_self] <;> omega)) ?_
    intro A w hF hH
    refine list_act hF rfl ?_
    refine op_alloc hF tab rfl rfl rfl rfl rfl hH ?_
    intro b11 A w hF hH
    refine evM [⟨b11, [.int .i64 0, .int .i64 0], 28⟩] [0, 0] tab hF hH rfl (by first | exact trivial | (simp only [All, inK_i64, inK_u64, inK_u32, inK_u8, inK_i32, max_i64, max_u64, IntKind.bits, Int.reduceToNat, Int.reduceAdd, Nat.reducePow, Int.reducePow, and_true, true_and, and_self] <;> omega)) ?_
    intro A w hF hH
    refine wpList_nil ?_
    refine wp_seq ?_
    refine wp_seq ?_
    refine wp_region_lit ?_
    have hH := hH.tail
    refine ev0 [0, 1] tab hF hH rfl (by first | exact trivial | (simp only [All, inK_i64, inK_u64, inK_u32, inK_u8, inK_i32, max_i64, max_u64, IntKind.bits, Int.reduceToNat, Int.reduceAdd, Nat.reducePow, Int.reducePow, and_true, true_and, and_self] <;> omega)) ?_
    intro A w hF hH
    refine wpList_nil ?_
    refine cond_t hF rfl rfl ?_
    refine wp_seq ?_
    refine wp_region_lit ?_
    refine ev0 [0, 0, 0, 0, 0, 0] tab hF hH rfl (by first | exact trivial | (simp only [All, inK_i64, inK_u64, inK_u32, inK_u8, inK_i32, max_i64, max_u64, IntKind.bits, Int.reduceToNat, Int.reduceAdd, Nat.reducePow, Int.reducePow, and_true, true_and, and_self] <;> omega)) ?_
    intro A w hF hH
    refine wpList_nil ?_
    refine wp_ret ?_
    repeat (first | refine then_ret ?_ | refine blk_ret ?_ | refine ng_ret ?_)
    refine ret (M := []) (hs := []) tab hF hH rfl (by first | exact trivial | (simp only [All, inK_i64, inK_u64, inK_u32, inK_u8, inK_i32, max_i64, max_u64, IntKind.bits, Int.reduceToNat, Int.reduceAdd, Nat.reducePow, Int.reducePow, and_true, true_and, and_self] <;> omega)) ?_
    exact ⟨rfl, hH.lower l1⟩
end Go.Proofs.Try
