/- SuperOrder, walked: a grant goes to the earliest deadline that waits. -/
import Derived.Test.YtfapcagleghlaaaSepJ
import Derived.Test.YtfapcagleghlaaaYl
import Derived.Test.YtfapcagleghlaaaWa
set_option linter.all false
namespace Go.Proofs.Try
open Go Go.Sep

theorem relF_mem {a0 at_ : Int} : ∀ (n : Nat) (p x : Prt), PInv a0 p → x ∈ relF at_ n p → p.rel ≤ at_ ∧ (x = p ∨ p.dl < x.dl) ∧ x.k = p.k
  | 0, p, x, _, h => by cases h
  | n + 1, p, x, hp, h => by
    unfold relF at h
    split at h
    · rename_i hr
      rcases List.mem_cons.1 h with rfl | h
      · exact ⟨hr, .inl rfl, rfl⟩
      · obtain ⟨_, h2, h3⟩ := relF_mem n (nextP p) x (nextP_inv hp) h
        have hd : p.dl < (nextP p).dl := by have := hp.E1; have := hp.EP; simp only [nextP]; omega
        refine ⟨hr, .inr ?_, h3⟩
        rcases h2 with rfl | h2 <;> omega
    · cases h
theorem relF_head {at_ : Int} {n : Nat} {p : Prt} (h : p.rel ≤ at_) : p ∈ relF at_ (n + 1) p := by
  unfold relF; rw [if_pos h]; exact List.mem_cons_self ..
theorem relL_none {a0 at_ : Int} {ps : List Prt} (hs : SInv a0 ps) (h : ∀ p ∈ ps, at_ < p.rel) : relL at_ ps = [] := by
  refine List.eq_nil_iff_forall_not_mem.2 fun x hx => ?_
  obtain ⟨p, hp, hx⟩ := List.mem_flatMap.1 hx
  have := (relF_mem 1000 p x (hs.mem p hp) hx).1
  have := h p hp
  omega
theorem jobs_head {a0 at_ : Int} {ps J : List Prt} (hs : SInv a0 ps) (hJ : J.Perm (relL at_ ps)) (hS : Srt J) {k : Nat} (hk : k < ps.length) (hr : ps[k].rel ≤ at_)
    (hmin : ∀ i (h : i < ps.length), ps[i].rel ≤ at_ → ps[k].dl < ps[i].dl ∨ (ps[k].dl = ps[i].dl ∧ k ≤ i)) : ∃ J', J = ps[k] :: J' := by
  have hm : ps[k] ∈ J := hJ.mem_iff.2 (List.mem_flatMap.2 ⟨_, List.getElem_mem hk, relF_head hr⟩)
  cases J with
  | nil => cases hm
  | cons x J' =>
    refine ⟨J', ?_⟩
    congr 1
    have hle : leP x ps[k] := by
      rcases List.mem_cons.1 hm with e | h
      · rw [← e]; exact leP_refl _
      · exact (List.pairwise_cons.1 hS).1 _ h
    have hx : x ∈ relL at_ ps := hJ.mem_iff.1 (List.mem_cons_self ..)
    obtain ⟨q, hq, hx⟩ := List.mem_flatMap.1 hx
    obtain ⟨i, hi, rfl⟩ := List.mem_iff_getElem.1 hq
    obtain ⟨g1, g2, g3⟩ := relF_mem 1000 ps[i] x (hs i hi).2 hx
    have hmi := hmin i hi g1
    have k1 := (hs i hi).1
    have k2 := (hs k hk).1
    unfold leP at hle
    rcases g2 with rfl | g2
    · have : i = k := by omega
      subst this; rfl
    · omega
/-- What is noted of each part: the number of its job. -/
def nxt (ps : List Prt) : List Value := (List.range 8).map fun i => .int .i64 (ps.getD i zeroJ).idx
theorem nxt_len (ps : List Prt) : (nxt ps).length = 8 := by simp [nxt]
theorem nxt_get (ps : List Prt) (k : Nat) (h : k < ps.length) (h8 : ps.length ≤ 8) : (nxt ps)[k]? = some (.int .i64 ps[k].idx) := by
  have : k < 8 := by omega
  simp [nxt, this, List.getElem?_range, h]
theorem nxt_set (ps : List Prt) (k : Nat) (h : k < ps.length) (h8 : ps.length ≤ 8) (q : Prt) : (nxt ps).set k (.int .i64 q.idx) = nxt (ps.set k q) := by
  apply List.ext_getElem?
  intro i
  rw [List.getElem?_set]
  by_cases hi : i < 8
  · by_cases e : k = i
    · subst e
      simp [nxt, hi, List.getElem?_range, h]
    · rw [if_neg e]
      simp [nxt, hi, List.getElem?_range, List.getElem?_set, e]
  · rw [List.getElem?_eq_none (by rw [nxt_len]; omega), List.getElem?_eq_none (by rw [nxt_len]; omega)]
    split
    · rw [if_neg (by rw [nxt_len]; omega)]
    · rfl
theorem nxt_new (ps : List (Int × Int)) (a0 : Int) : nxt (newS a0 ps).ps = List.replicate 8 (.int .i64 0) := by
  apply List.ext_getElem?
  intro i
  by_cases hi : i < 8
  · simp only [nxt, List.getElem?_map, List.getElem?_range, hi, Option.map_some, List.getElem?_replicate, if_true, newS, newPs, List.getD, List.getElem?_mapIdx, Option.some.injEq, Value.int.injEq, true_and]
    cases ps[i]? <;> rfl
  · rw [List.getElem?_eq_none (by rw [nxt_len]; omega), List.getElem?_eq_none (by simp; omega)]
theorem rowEq {κ : K} {w : World} {C : List HP} {b t : Nat} {cs cs' : List Value} (e : cs = cs') (h : Hp κ w (row b cs t :: C)) : Hp κ w (row b cs' t :: C) := e ▸ h
set_option maxRecDepth 20000 in
theorem order_walk {κ : K} {w : World} {v v2 : Value} {l : List (Int × Int)} {gs : List Int} (hv : Rd κ [] 2 wenc v l) (hlen : l.length ≤ 9223372036854775807) (hr : ∀ p ∈ l, InI p.1 ∧ InI p.2)
    (hg : Rd κ [] 1 e64 v2 gs) (hglen : gs.length ≤ 9223372036854775807) (hgr : ∀ x ∈ gs, InI x) (hH : Hp κ w []) :
    Calls Try.prog 6 #[v, v2] w (fun e w' => e = .returned (.bool true) ∧ Hp κ w' []) := by
  obtain ⟨hp, hl8⟩ := madeF_ok l
  obtain ⟨G0, gcap, rfl, hgcap⟩ := hg.form
  refine enter (args := [v, .slice G0 gs.length gcap]) Try.func6 rfl rfl ?_
  intro A hF
  refine wp_seq ?_
  refine wp_region_lit ?_
  refine ev0 [0] tab hF hH rfl (by first | exact trivial | (simp only [All, inK_i64, inK_u64, inK_u32, inK_u8, inK_i32, max_i64, max_u64, IntKind.bits, Int.reduceToNat, Int.reduceAdd, Nat.reducePow, Int.reducePow, and_true, true_and, and_self] <;> omega)) ?_
  intro A w hF hH
  refine wpList_nil ?_
  refine wp_seq ?_
  refine wp_region_lit ?_
  refine list_act hF rfl ?_
  refine op_call hF rfl rfl rfl rfl rfl rfl isF8 (awake_calls hH) ?_
  rintro e w ⟨rfl, hH⟩
  refine ⟨_, rfl, fun A hF => ?_⟩
  refine ev0 [0] tab hF hH rfl (by first | exact trivial | (simp only [All, inK_i64, inK_u64, inK_u32, inK_u8, inK_i32, max_i64, max_u64, IntKind.bits, Int.reduceToNat, Int.reduceAdd, Nat.reducePow, Int.reducePow, and_true, true_and, and_self] <;> omega)) ?_
  intro A w hF hH
  refine wpList_nil ?_
  refine wp_seq ?_
  refine wp_region_lit ?_
  refine ev0 [0] tab hF hH rfl (by first | exact trivial | (simp only [All, inK_i64, inK_u64, inK_u32, inK_u8, inK_i32, max_i64, max_u64, IntKind.bits, Int.reduceToNat, Int.reduceAdd, Nat.reducePow, Int.reducePow, and_true, true_and, and_self] <;> omega)) ?_
  intro A w hF hH
  refine list_act hF rfl ?_
  refine op_call hF rfl rfl rfl rfl rfl rfl isF9 (made_calls hv hlen hr hH) ?_
  rintro e w ⟨κ1, mv, l1, rfl, hmv, hH⟩
  refine ⟨_, rfl, fun A hF => ?_⟩
  refine ev0 [0] tab hF hH rfl (by first | exact trivial | (simp only [All, inK_i64, inK_u64, inK_u32, inK_u8, inK_i32, max_i64, max_u64, IntKind.bits, Int.reduceToNat, Int.reduceAdd, Nat.reducePow, Int.reducePow, and_true, true_and, and_self] <;> omega)) ?_
  intro A w hF hH
  refine wpList_nil ?_
  refine wp_seq ?_
  refine wp_region_lit ?_
  generalize madeF l = ps at *
  by_cases he : (weightF ps).2.2 = 0
  · refine ev0 [0] tab hF hH rfl (by first | exact trivial | (simp only [All, inK_i64, inK_u64, inK_u32, inK_u8, inK_i32, max_i64, max_u64, IntKind.bits, Int.reduceToNat, Int.reduceAdd, Nat.reducePow, Int.reducePow, and_true, true_and, and_self] <;> omega)) ?_
    intro A w hF hH
    obtain ⟨M0, mcap, rfl, hmcap⟩ := hmv.form
    refine list_act hF rfl ?_
    refine op_call hF rfl rfl rfl rfl rfl rfl isF11 (new_calls (at_ := 0) hmv hp hl8 he (by omega) (by omega) hH) ?_
    rintro e w ⟨sa, rfl, hH⟩
    refine ⟨_, rfl, fun A hF => ?_⟩
    refine ev0 [0] tab hF hH rfl (by first | exact trivial | (simp only [All, inK_i64, inK_u64, inK_u32, inK_u8, inK_i32, max_i64, max_u64, IntKind.bits, Int.reduceToNat, Int.reduceAdd, Nat.reducePow, Int.reducePow, and_true, true_and, and_self] <;> omega)) ?_
    intro A w hF hH
    refine wpList_nil ?_
    refine wp_seq ?_
    refine wp_seq ?_
    refine wp_region_lit ?_
    refine ev0 [0, 0] tab hF hH rfl (by first | exact trivial | (simp only [All, inK_i64, inK_u64, inK_u32, inK_u8, inK_i32, max_i64, max_u64, IntKind.bits, Int.reduceToNat, Int.reduceAdd, Nat.reducePow, Int.reducePow, and_true, true_and, and_self] <;> omega)) ?_
    intro A w hF hH
    refine wpList_nil ?_
    refine cond_f hF rfl rfl ?_
    refine wp_skip ?_
    refine wp_seq ?_
    refine wp_region_lit ?_
    refine ev0 [0] tab hF hH rfl (by first | exact trivial | (simp only [All, inK_i64, inK_u64, inK_u32, inK_u8, inK_i32, max_i64, max_u64, IntKind.bits, Int.reduceToNat, Int.reduceAdd, Nat.reducePow, Int.reducePow, and_true, true_and, and_self] <;> omega)) ?_
    intro A w hF hH
    refine wpList_nil ?_
    refine wp_seq ?_
    refine wp_region_lit ?_
    refine list_act hF rfl ?_
    refine op_alloc hF tab rfl rfl rfl rfl rfl hH ?_
    intro b9 A w hF hH
    refine wpList_nil ?_
    refine wp_seq ?_
    refine wp_seq ?_
    refine wp_region_lit ?_
    refine ev0 [0] tab hF hH rfl (by first | exact trivial | (simp only [All, inK_i64, inK_u64, inK_u32, inK_u8, inK_i32, max_i64, max_u64, IntKind.bits, Int.reduceToNat, Int.reduceAdd, Nat.reducePow, Int.reducePow, and_true, true_and, and_self] <;> omega)) ?_
    intro A w hF hH
    refine wpList_nil ?_
    refine wp_block ?_
    have hf0 := Fit.new hp (a0 := 0) (by omega) (by omega) 0
    obtain ⟨g1, g2, g3⟩ := newS_inv hp 0
    have hnx := nxt_new ps 0
    refine loop_j (fun (i : Nat) A w => i ≤ min gs.length 60 ∧ ∃ (now : Int), ∃ S : Sup, 0 ≤ now ∧ now ≤ 7 * (i : Int) ∧ S.last ≤ now ∧ S.ps.length = ps.length ∧ Fit 0 i now S ∧ Fr 123 A [(10, .int .i64 i), (8, .int .i64 now), (9, .pointer (some ⟨b9, 0, none⟩)), (7, .pointer (some ⟨sa, 0, none⟩)), (6, .slice M0 ps.length mcap), (5, .bool true), (1, .slice G0 gs.length gcap)] ∧ Hp κ1 w (row b9 (nxt S.ps) 49 :: sup sa S :: [])) (fun i => 60 - i) 0 ⟨Nat.zero_le _, 0, _, by omega, by omega, Int.le_refl _, g3, hf0, Fr.to hF ⟨rfl, rfl, rfl, rfl, rfl, rfl, rfl, trivial⟩, by rw [hnx]; exact hH⟩ ?_
    rintro i A w ⟨hi, now, S, hnow0, hnow1, hlast, hSl, hf, hF, hH⟩
    refine wp_seq ?_
    refine wp_seq ?_
    refine wp_region_lit ?_
    by_cases hlt : i < min gs.length 60
    · refine ev0 [0, 0, 0, 1, 0, 0, 1, 0] tab hF hH rfl (by first | exact trivial | (simp only [All, inK_i64, inK_u64, inK_u32, inK_u8, inK_i32, max_i64, max_u64, IntKind.bits, Int.reduceToNat, Int.reduceAdd, Nat.reducePow, Int.reducePow, and_true, true_and, and_self] <;> omega)) ?_
      intro A w hF hH
      refine wpList_nil ?_
      refine cond_t hF rfl rfl ?_
      refine wp_skip ?_
      refine wp_seq ?_
      refine wp_block ?_
      refine wp_seq ?_
      refine wp_region_lit ?_
      obtain ⟨b0, off0, rfl⟩ := hg.addr (by omega)
      have hgl : i < gs.length := by omega
      have hat := (hg.mono l1).at_ (fun _ _ => rfl) i hgl
      generalize gs[i] = g at *
      have hg0 := Int.emod_nonneg g (b := 8) (by omega)
      have hg1 := Int.emod_lt_of_pos g (b := 8) (by omega)
      have hm7 : (7 : Int) + 1 = 8 := rfl
      refine evF [] [] (LFok.cons hat (LFok.nil _ _)) [0, 0, 0, 0, 1, 0, 0, 0] tab hF hH rfl (by first | exact trivial | (simp only [All, inK_i64, inK_u64, inK_u32, inK_u8, inK_i32, max_i64, max_u64, IntKind.bits, Int.reduceToNat, Int.reduceAdd, Nat.reducePow, Int.reducePow, and_true, true_and, and_self] <;> omega)) ?_
      intro A w hF hH
      simp only [hm7] at hF
      refine wpList_nil ?_
      refine wp_seq ?_
      refine wp_region_lit ?_
      generalize ht : now + g % 8 = t at *
      have hgr1 := hf.grant (u := t) (by omega) (by omega) (by omega)
      have hpf := hf.pfit (by omega)
      have hs1 := hf.si
      have hs2 := hf.s0
      have hs3 := hf.i0
      have hS8 : S.ps.length ≤ 8 := by omega
      have hlt2 : S.last ≤ t ∧ t ≤ 1099511627776 := by omega
      have hH := hH.swap
      refine ev0 [0, 0] tab hF hH rfl (by first | exact trivial | (simp only [All, inK_i64, inK_u64, inK_u32, inK_u8, inK_i32, max_i64, max_u64, IntKind.bits, Int.reduceToNat, Int.reduceAdd, Nat.reducePow, Int.reducePow, and_true, true_and, and_self] <;> omega)) ?_
      intro A w hF hH
      refine list_act hF rfl ?_
      refine op_call hF rfl rfl rfl rfl rfl rfl isF18 (jobs_calls t (Int.le_refl 0) hf.inv.mem hS8 hlt2 hH) ?_
      rintro e w ⟨jv, J, rfl, hJ, hJs, hH⟩
      refine ⟨_, rfl, fun A hF => ?_⟩
      have hJl := relL_len t S.ps
      have hJl2 := hJ.length_eq
      obtain ⟨JA, jcap, rfl⟩ := osl_form hH
      have hH := hH.swap
      refine ev0 [0] tab hF hH rfl (by first | exact trivial | (simp only [All, inK_i64, inK_u64, inK_u32, inK_u8, inK_i32, max_i64, max_u64, IntKind.bits, Int.reduceToNat, Int.reduceAdd, Nat.reducePow, Int.reducePow, and_true, true_and, and_self] <;> omega)) ?_
      intro A w hF hH
      refine wpList_nil ?_
      refine wp_seq ?_
      refine wp_region_lit ?_
      refine ev0 [0, 0] tab hF hH rfl (by first | exact trivial | (simp only [All, inK_i64, inK_u64, inK_u32, inK_u8, inK_i32, max_i64, max_u64, IntKind.bits, Int.reduceToNat, Int.reduceAdd, Nat.reducePow, Int.reducePow, and_true, true_and, and_self] <;> omega)) ?_
      intro A w hF hH
      refine list_act hF rfl ?_
      refine op_call hF rfl rfl rfl rfl rfl rfl isF14 (grant_calls t hpf hS8 ⟨hs2, by omega⟩ ⟨hs3, by omega⟩ hH) ?_
      rintro e w ⟨rfl, hH⟩
      refine ⟨_, rfl, fun A hF => ?_⟩
      rcases grant_cases hf.inv t (by omega) (by omega) with ⟨ge, hrel⟩ | ⟨k, hk, ge, hkr, hmin⟩
      · rw [ge] at hF hH
        have hJ0 : J = [] := by rw [relL_none hf.inv hrel] at hJ; exact hJ.eq_nil
        subst hJ0
        rw [ge] at hgr1
        have h00 : ([] : List Prt).length = 0 := rfl
        refine ev0 [0, 0, 0] tab hF hH rfl (by first | exact trivial | (simp only [All, inK_i64, inK_u64, inK_u32, inK_u8, inK_i32, max_i64, max_u64, IntKind.bits, Int.reduceToNat, Int.reduceAdd, Nat.reducePow, Int.reducePow, and_true, true_and, and_self] <;> omega)) ?_
        intro A w hF hH
        refine list_act hF rfl ?_
        refine op_alloc hF tab rfl rfl rfl rfl rfl hH ?_
        intro b12 A w hF hH
        refine evM [⟨b12, (jenc zeroJ), 40⟩] [0, 0] tab hF hH rfl (by first | exact trivial | (simp only [All, inK_i64, inK_u64, inK_u32, inK_u8, inK_i32, max_i64, max_u64, IntKind.bits, Int.reduceToNat, Int.reduceAdd, Nat.reducePow, Int.reducePow, and_true, true_and, and_self] <;> omega)) ?_
        intro A w hF hH
        refine wpList_nil ?_
        refine wp_seq ?_
        refine wp_seq ?_
        refine wp_region_lit ?_
        have hH := hH.tail
        refine ev0 [0, 0, 0, 2, 0] tab hF hH rfl (by first | exact trivial | (simp only [All, inK_i64, inK_u64, inK_u32, inK_u8, inK_i32, max_i64, max_u64, IntKind.bits, Int.reduceToNat, Int.reduceAdd, Nat.reducePow, Int.reducePow, and_true, true_and, and_self] <;> omega)) ?_
        intro A w hF hH
        refine wpList_nil ?_
        refine cond_f hF rfl rfl ?_
        refine wp_skip ?_
        refine wp_seq ?_
        refine wp_seq ?_
        refine wp_region_lit ?_
        refine ev0 [0, 0] tab hF hH rfl (by first | exact trivial | (simp only [All, inK_i64, inK_u64, inK_u32, inK_u8, inK_i32, max_i64, max_u64, IntKind.bits, Int.reduceToNat, Int.reduceAdd, Nat.reducePow, Int.reducePow, and_true, true_and, and_self] <;> omega)) ?_
        intro A w hF hH
        refine wpList_nil ?_
        refine cond_t hF rfl rfl ?_
        refine wp_exit ?_
        repeat (first | refine then_exit ?_ | refine ng_exit ?_ | refine blk_exit ?_ | refine blk_exit_ne rfl ?_)
        refine wp_region_lit ?_
        refine ev0 [0, 0, 0] tab hF hH rfl (by first | exact trivial | (simp only [All, inK_i64, inK_u64, inK_u32, inK_u8, inK_i32, max_i64, max_u64, IntKind.bits, Int.reduceToNat, Int.reduceAdd, Nat.reducePow, Int.reducePow, and_true, true_and, and_self] <;> omega)) ?_
        intro A w hF hH
        refine wpList_nil ?_
        exact ⟨i + 1, ⟨by omega, t, ⟨S.ps, t, S.served, S.idle + 1⟩, by omega, by omega, Int.le_refl _, hSl, by simpa using hgr1, Fr.to hF ⟨rfl, rfl, rfl, rfl, rfl, rfl, rfl, trivial⟩, (hH.focus 1 rfl).tail.swap⟩, by omega⟩
      · obtain ⟨J', hJe⟩ := jobs_head hf.inv hJ hJs hk hkr hmin
        subst hJe
        rw [ge] at hF hH hgr1
        have hJc : (S.ps[k] :: J').length = J'.length + 1 := rfl
        have hkk := (hf.inv k hk).1
        have hpk := (hf.inv k hk).2
        have hnx0 := nxt_get S.ps k hk hS8
        have hnx1 := fun q => nxt_set S.ps k hk hS8 q
        have hnxl := nxt_len S.ps
        have hpf0 := hpf S.ps[k] (List.getElem_mem hk)
        rcases osl_cases (hH.focus 1 rfl) with ⟨_, hz, _⟩ | ⟨jb, jcap2, cur, hjv, j3, j4, j5, j6, hH⟩
        · simp at hz
        simp only [Value.slice.injEq] at hjv
        obtain ⟨rfl, _, rfl⟩ := hjv
        have hcur : ∀ j u, (jenc S.ps[k])[j]? = some u → cur[0 + j]? = some u := fun j u hu => by
          rw [Nat.zero_add]
          have h1 : ((S.ps[k] :: J').flatMap jenc)[j]? = some u := by
            rw [List.flatMap_cons, List.getElem?_append_left]
            · exact hu
            · rcases Nat.lt_or_ge j (jenc S.ps[k]).length with g | g
              · exact g
              · rw [List.getElem?_eq_none g] at hu; cases hu
          rw [← j6, List.getElem?_take] at h1
          split at h1
          · exact h1
          · cases h1
        generalize hp0 : S.ps[k] = p at *
        obtain ⟨E, P, kk, idx, rel, dl, left⟩ := p
        simp only at hkk hkr hnx0
        subst hkk
        obtain ⟨q1, q2, q3, q4, q5, q6, q7, q8, q9, q10, q11⟩ := hpf0
        simp only at q1 q2 q3 q4 q5 q6 q7 q8 q9 q10 q11
        have hl1 := hpk.left1
        simp only at hl1
        refine ev0 [0, 0, 0] tab hF hH rfl (by first | exact trivial | (simp only [All, inK_i64, inK_u64, inK_u32, inK_u8, inK_i32, max_i64, max_u64, IntKind.bits, Int.reduceToNat, Int.reduceAdd, Nat.reducePow, Int.reducePow, and_true, true_and, and_self] <;> omega)) ?_
        intro A w hF hH
        refine list_act hF rfl ?_
        refine op_alloc hF tab rfl rfl rfl rfl rfl hH ?_
        intro b12 A w hF hH
        refine evM [⟨b12, (jenc zeroJ), 40⟩] [0, 0] tab hF hH rfl (by first | exact trivial | (simp only [All, inK_i64, inK_u64, inK_u32, inK_u8, inK_i32, max_i64, max_u64, IntKind.bits, Int.reduceToNat, Int.reduceAdd, Nat.reducePow, Int.reducePow, and_true, true_and, and_self] <;> omega)) ?_
        intro A w hF hH
        refine wpList_nil ?_
        refine wp_seq ?_
        refine wp_seq ?_
        refine wp_region_lit ?_
        have hH := hH.swap
        refine ev0 [0, 0, 0, 1, 0] tab hF hH rfl (by first | exact trivial | (simp only [All, inK_i64, inK_u64, inK_u32, inK_u8, inK_i32, max_i64, max_u64, IntKind.bits, Int.reduceToNat, Int.reduceAdd, Nat.reducePow, Int.reducePow, and_true, true_and, and_self] <;> omega)) ?_
        intro A w hF hH
        refine wpList_nil ?_
        refine cond_f hF rfl rfl ?_
        refine wp_skip ?_
        refine wp_seq ?_
        refine wp_seq ?_
        refine wp_region_lit ?_
        refine ev0 [0, 0] tab hF hH rfl (by first | exact trivial | (simp only [All, inK_i64, inK_u64, inK_u32, inK_u8, inK_i32, max_i64, max_u64, IntKind.bits, Int.reduceToNat, Int.reduceAdd, Nat.reducePow, Int.reducePow, and_true, true_and, and_self] <;> omega)) ?_
        intro A w hF hH
        refine wpList_nil ?_
        refine cond_f hF rfl rfl ?_
        refine wp_skip ?_
        refine wp_seq ?_
        refine wp_region_lit ?_
        have hatj := At.own (κ := κ1) (X := [row jb cur 40]) (off := 0) (vs := [.int .i64 k, .int .i64 idx, .int .i64 rel, .int .i64 dl, .int .i64 left]) 0 rfl hcur
        refine evF [] [row jb cur 40] (LFok.cons hatj (LFok.nil _ _)) [0, 0, 1] tab hF hH rfl (by first | exact trivial | (simp only [All, inK_i64, inK_u64, inK_u32, inK_u8, inK_i32, max_i64, max_u64, IntKind.bits, Int.reduceToNat, Int.reduceAdd, Nat.reducePow, Int.reducePow, and_true, true_and, and_self] <;> omega)) ?_
        intro A w hF hH
        refine list_act hF rfl ?_
        refine op_alloc hF tab rfl rfl rfl rfl rfl hH ?_
        intro b14 A w hF hH
        refine evM [⟨b14, (jenc zeroJ), 40⟩] [0] tab hF hH rfl (by first | exact trivial | (simp only [All, inK_i64, inK_u64, inK_u32, inK_u8, inK_i32, max_i64, max_u64, IntKind.bits, Int.reduceToNat, Int.reduceAdd, Nat.reducePow, Int.reducePow, and_true, true_and, and_self] <;> omega)) ?_
        intro A w hF hH
        refine wpList_nil ?_
        refine wp_seq ?_
        refine wp_seq ?_
        have hH := (((hH.focus 1 rfl).tail.swap.focus 3 rfl).focus 2 rfl).focus 2 rfl
        refine dr_all (by kernel_rfl) [] [row b12 [.int .i64 (k : Int), .int .i64 idx, .int .i64 rel, .int .i64 dl, .int .i64 (left - 1)] 40, row b14 [.int .i64 (k : Int), .int .i64 idx, .int .i64 rel, .int .i64 dl, .int .i64 left] 40, row b9 (nxt S.ps) 49] [(0, 0), (1, 1), (2, 0), (3, 11), (4, 2), (5, 0), (6, 0), (7, 3), (8, 0), (9, 13), (10, 2), (11, 0), (12, 0), (13, 0), (14, 7), (15, 0), (16, 15), (17, 2), (18, 0), (19, 0), (20, 0), (21, 9), (22, 0), (23, 17), (24, 0), (25, 2), (26, 0), (27, 0), (28, 0), (29, 5), (30, 0), (31, 2), (32, 0), (33, 0), (34, 0), (35, 1), (36, 2), (37, 0), (38, 0), (39, 0), (40, 1), (41, 0), (42, 0), (43, 2), (44, 0), (45, 0), (46, 0), (47, 3), (48, 0), (49, 1), (50, 0), (51, 19), (52, 2), (53, 0)] tab (LFok.cons (At.own (off := 0) (vs := [.int .i64 (k : Int)]) 0 rfl (own1 rfl)) (LFok.cons (At.own (off := 1) (vs := [.int .i64 idx]) 0 rfl (own1 rfl)) (LFok.cons (At.own (off := 2) (vs := [.int .i64 rel]) 0 rfl (own1 rfl)) (LFok.cons (At.own (off := 3) (vs := [.int .i64 dl]) 0 rfl (own1 rfl)) (LFok.cons (At.own (off := 4) (vs := [.int .i64 (left - 1)]) 0 rfl (own1 rfl)) (LFok.cons (At.own (off := 0) (vs := [.int .i64 (k : Int)]) 1 rfl (own1 rfl)) (LFok.cons (At.own (off := 1) (vs := [.int .i64 idx]) 1 rfl (own1 rfl)) (LFok.cons (At.own (off := 3) (vs := [.int .i64 dl]) 1 rfl (own1 rfl)) (LFok.cons (At.own (off := 4) (vs := [.int .i64 left]) 1 rfl (own1 rfl)) (LFok.cons (At.own (off := k) (vs := [.int .i64 idx]) 2 rfl (own1 hnx0)) (LFok.nil _ _))))))))))) (by kernel_rfl) rfl hF hH (by kernel_rfl) (by kernel_rfl) rfl (by first | exact trivial | (simp only [All, inK_i64, inK_u64, inK_u32, inK_u8, inK_i32, max_i64, max_u64, IntKind.bits, Int.reduceToNat, Int.reduceAdd, Nat.reducePow, Int.reducePow, and_true, true_and, and_self] <;> omega)) ?_
        intro A w hF hH
        refine cond_f hF rfl rfl ?_
        refine wp_skip ?_
        refine wp_seq ?_
        refine wp_region_lit ?_
        by_cases hl0 : left - 1 = 0
        · have hst : stepP ⟨E, P, (k : Int), idx, rel, dl, left⟩ = nextP ⟨E, P, (k : Int), idx, rel, dl, left⟩ := if_pos hl0
          refine evM [⟨b12, [.int .i64 (k : Int), .int .i64 idx, .int .i64 rel, .int .i64 dl, .int .i64 (left - 1)], 40⟩] [0, 0, 1] tab hF hH rfl (by first | exact trivial | (simp only [All, inK_i64, inK_u64, inK_u32, inK_u8, inK_i32, max_i64, max_u64, IntKind.bits, Int.reduceToNat, Int.reduceAdd, Nat.reducePow, Int.reducePow, and_true, true_and, and_self] <;> omega)) ?_
          intro A w hF hH
          refine wpList_nil ?_
          refine cond_t hF rfl rfl ?_
          refine wp_region_lit ?_
          have hH := hH.focus 2 rfl
          refine evF [] [row b9 (nxt S.ps) 49, row b12 [.int .i64 (k : Int), .int .i64 idx, .int .i64 rel, .int .i64 dl, .int .i64 (left - 1)] 40] (LFok.cons (At.own (off := 0) (vs := [.int .i64 (k : Int)]) 1 rfl (own1 rfl)) (LFok.cons (At.own (off := k) (vs := [.int .i64 idx]) 0 rfl (own1 hnx0)) (LFok.nil _ _))) [0, 1, 0, 3, 0, 0] tab hF hH rfl (by first | exact trivial | (simp only [All, inK_i64, inK_u64, inK_u32, inK_u8, inK_i32, max_i64, max_u64, IntKind.bits, Int.reduceToNat, Int.reduceAdd, Nat.reducePow, Int.reducePow, and_true, true_and, and_self] <;> omega)) ?_
          intro A w hF hH
          refine list_act hF rfl ?_
          refine op_storeS hF tab rfl rfl rfl rfl rfl rfl (by rw [hnxl]; show 0 + (k : Int).toNat * 1 + 1 ≤ 8; omega) hH ?_
          intro A w hF hH
          refine wpList_nil ?_
          refine wp_region_lit ?_
          have e : putL (nxt S.ps) (0 + (k : Int).toNat * 1) [.int .i64 (idx + 1)] = nxt (S.ps.set k (stepP ⟨E, P, (k : Int), idx, rel, dl, left⟩)) := by
            rw [← hnx1, hst]; simp [putL, setL_eq, nextP]
          have hH := rowEq e hH
          refine ev0 [0, 0, 0] tab hF hH rfl (by first | exact trivial | (simp only [All, inK_i64, inK_u64, inK_u32, inK_u8, inK_i32, max_i64, max_u64, IntKind.bits, Int.reduceToNat, Int.reduceAdd, Nat.reducePow, Int.reducePow, and_true, true_and, and_self] <;> omega)) ?_
          intro A w hF hH
          refine wpList_nil ?_
          exact ⟨i + 1, ⟨by omega, t, ⟨S.ps.set k (stepP ⟨E, P, (k : Int), idx, rel, dl, left⟩), t, S.served + 1, S.idle⟩, by omega, by omega, Int.le_refl _, by simpa using hSl, by simpa using hgr1, Fr.to hF ⟨rfl, rfl, rfl, rfl, rfl, rfl, rfl, trivial⟩, hH.swap.tail.swap.tail⟩, by omega⟩
        · have hst : stepP ⟨E, P, (k : Int), idx, rel, dl, left⟩ = ⟨E, P, (k : Int), idx, rel, dl, left - 1⟩ := if_neg hl0
          have e : nxt S.ps = nxt (S.ps.set k (stepP ⟨E, P, (k : Int), idx, rel, dl, left⟩)) := by
            rw [← hnx1, hst]
            apply List.ext_getElem?
            intro i
            rw [List.getElem?_set]
            split
            · rename_i e
              subst e
              rw [if_pos (by omega), hnx0]
            · rfl
          rw [e] at hH
          refine evM [⟨b12, [.int .i64 (k : Int), .int .i64 idx, .int .i64 rel, .int .i64 dl, .int .i64 (left - 1)], 40⟩] [0, 0, 2] tab hF hH rfl (by first | exact trivial | (simp only [All, inK_i64, inK_u64, inK_u32, inK_u8, inK_i32, max_i64, max_u64, IntKind.bits, Int.reduceToNat, Int.reduceAdd, Nat.reducePow, Int.reducePow, and_true, true_and, and_self] <;> omega)) ?_
          intro A w hF hH
          refine wpList_nil ?_
          refine cond_f hF rfl rfl ?_
          refine wp_skip ?_
          refine wp_region_lit ?_
          refine ev0 [0, 0, 0] tab hF hH rfl (by first | exact trivial | (simp only [All, inK_i64, inK_u64, inK_u32, inK_u8, inK_i32, max_i64, max_u64, IntKind.bits, Int.reduceToNat, Int.reduceAdd, Nat.reducePow, Int.reducePow, and_true, true_and, and_self] <;> omega)) ?_
          intro A w hF hH
          refine wpList_nil ?_
          exact ⟨i + 1, ⟨by omega, t, ⟨S.ps.set k (stepP ⟨E, P, (k : Int), idx, rel, dl, left⟩), t, S.served + 1, S.idle⟩, by omega, by omega, Int.le_refl _, by simpa using hSl, by simpa using hgr1, Fr.to hF ⟨rfl, rfl, rfl, rfl, rfl, rfl, rfl, trivial⟩, hH.tail.tail⟩, by omega⟩
    · have hcase : (i : Int) < gs.length ∧ ¬ (i : Int) < 60 ∨ ¬ (i : Int) < gs.length := by omega
      rcases hcase with hc | hc
      · skip
        refine ev0 [0, 0, 0, 1, 0, 0, 2, 0] tab hF hH rfl (by first | exact trivial | (simp only [All, inK_i64, inK_u64, inK_u32, inK_u8, inK_i32, max_i64, max_u64, IntKind.bits, Int.reduceToNat, Int.reduceAdd, Nat.reducePow, Int.reducePow, and_true, true_and, and_self] <;> omega)) ?_
        intro A w hF hH
        refine wpList_nil ?_
        refine cond_f hF rfl rfl ?_
        refine wp_exit ?_
        repeat (first | refine then_exit ?_ | refine ng_exit ?_ | refine blk_exit ?_ | refine blk_exit_ne rfl ?_)
        refine wp_seq ?_
        refine wp_region_lit ?_
        refine ev0 [0, 0] tab hF hH rfl (by first | exact trivial | (simp only [All, inK_i64, inK_u64, inK_u32, inK_u8, inK_i32, max_i64, max_u64, IntKind.bits, Int.reduceToNat, Int.reduceAdd, Nat.reducePow, Int.reducePow, and_true, true_and, and_self] <;> omega)) ?_
        intro A w hF hH
        refine wpList_nil ?_
        refine wp_ret ?_
        repeat (first | refine then_ret ?_ | refine blk_ret ?_ | refine ng_ret ?_)
        refine ret (M := []) (hs := []) tab hF hH rfl (by first | exact trivial | (simp only [All, inK_i64, inK_u64, inK_u32, inK_u8, inK_i32, max_i64, max_u64, IntKind.bits, Int.reduceToNat, Int.reduceAdd, Nat.reducePow, Int.reducePow, and_true, true_and, and_self] <;> omega)) ?_
        exact ⟨rfl, (hH.lower l1).tail.tail⟩
      · skip
        refine ev0 [0, 0, 0, 2, 0, 0, 0, 0] tab hF hH rfl (by first | exact trivial | (simp only [All, inK_i64, inK_u64, inK_u32, inK_u8, inK_i32, max_i64, max_u64, IntKind.bits, Int.reduceToNat, Int.reduceAdd, Nat.reducePow, Int.reducePow, and_true, true_and, and_self] <;> omega)) ?_
        intro A w hF hH
        refine wpList_nil ?_
        refine cond_f hF rfl rfl ?_
        refine wp_exit ?_
        repeat (first | refine then_exit ?_ | refine ng_exit ?_ | refine blk_exit ?_ | refine blk_exit_ne rfl ?_)
        refine wp_seq ?_
        refine wp_region_lit ?_
        refine ev0 [0, 0] tab hF hH rfl (by first | exact trivial | (simp only [All, inK_i64, inK_u64, inK_u32, inK_u8, inK_i32, max_i64, max_u64, IntKind.bits, Int.reduceToNat, Int.reduceAdd, Nat.reducePow, Int.reducePow, and_true, true_and, and_self] <;> omega)) ?_
        intro A w hF hH
        refine wpList_nil ?_
        refine wp_ret ?_
        repeat (first | refine then_ret ?_ | refine blk_ret ?_ | refine ng_ret ?_)
        refine ret (M := []) (hs := []) tab hF hH rfl (by first | exact trivial | (simp only [All, inK_i64, inK_u64, inK_u32, inK_u8, inK_i32, max_i64, max_u64, IntKind.bits, Int.reduceToNat, Int.reduceAdd, Nat.reducePow, Int.reducePow, and_true, true_and, and_self] <;> omega)) ?_
        exact ⟨rfl, (hH.lower l1).tail.tail⟩
  · skip
    refine ev0 [0] tab hF hH rfl (by first | exact trivial | (simp only [All, inK_i64, inK_u64, inK_u32, inK_u8, inK_i32, max_i64, max_u64, IntKind.bits, Int.reduceToNat, Int.reduceAdd, Nat.reducePow, Int.reducePow, and_true, true_and, and_self] <;> omega)) ?_
    intro A w hF hH
    refine list_act hF rfl ?_
    refine op_call hF rfl rfl rfl rfl rfl rfl isF11 (new_nil_calls 0 hmv hp hl8 he hH) ?_
    rintro e w ⟨rfl, hH⟩
    refine ⟨_, rfl, fun A hF => ?_⟩
    refine ev0 [0] tab hF hH rfl (by first | exact trivial | (simp only [All, inK_i64, inK_u64, inK_u32, inK_u8, inK_i32, max_i64, max_u64, IntKind.bits, Int.reduceToNat, Int.reduceAdd, Nat.reducePow, Int.reducePow, and_true, true_and, and_self] <;> omega)) ?_
    intro A w hF hH
    refine wpList_nil ?_
    refine wp_seq ?_
    refine wp_seq ?_
    refine wp_region_lit ?_
    refine ev0 [0, 0] tab hF hH rfl (by first | exact trivial | (simp only [All, inK_i64, inK_u64, inK_u32, inK_u8, inK_i32, max_i64, max_u64, IntKind.bits, Int.reduceToNat, Int.reduceAdd, Nat.reducePow, Int.reducePow, and_true, true_and, and_self] <;> omega)) ?_
    intro A w hF hH
    refine wpList_nil ?_
    refine cond_t hF rfl rfl ?_
    refine wp_seq ?_
    refine wp_region_lit ?_
    refine ev0 [0, 0] tab hF hH rfl (by first | exact trivial | (simp only [All, inK_i64, inK_u64, inK_u32, inK_u8, inK_i32, max_i64, max_u64, IntKind.bits, Int.reduceToNat, Int.reduceAdd, Nat.reducePow, Int.reducePow, and_true, true_and, and_self] <;> omega)) ?_
    intro A w hF hH
    refine wpList_nil ?_
    refine wp_ret ?_
    repeat (first | refine then_ret ?_ | refine blk_ret ?_ | refine ng_ret ?_)
    refine ret (M := []) (hs := []) tab hF hH rfl (by first | exact trivial | (simp only [All, inK_i64, inK_u64, inK_u32, inK_u8, inK_i32, max_i64, max_u64, IntKind.bits, Int.reduceToNat, Int.reduceAdd, Nat.reducePow, Int.reducePow, and_true, true_and, and_self] <;> omega)) ?_
    exact ⟨rfl, hH.lower l1⟩
end Go.Proofs.Try
