/- Contracts of the naturals' functions: products. -/
import Derived.Test.YtfapcagleghlaaaPa
set_option linter.all false
namespace Go.Proofs.Try
open Go Go.Sep

set_option maxRecDepth 20000 in
theorem mul_nat_calls (κ : K) (va vb : Value) (a b : Int) (da db : List Int) (ha : NatR κ va a da) (hb : NatR κ vb b db) (hl : da.length + db.length < 1073741824) (w : World) (C : List HP) (hH : Hp κ w C) :
    Calls Try.prog 56 #[va, vb] w (fun e w' => ∃ κ' v ds, κ.le κ' ∧ e = .returned v ∧ NatR κ' v (a * b) ds ∧ Hp κ' w' C) := by
  obtain ⟨A1, cap1, rfl, hcap1⟩ := ha.rd.form
  obtain ⟨A2, cap2, rfl, hcap2⟩ := hb.rd.form
  obtain ⟨m, hm⟩ : ∃ m : Nat, m = da.length + db.length + 1 := ⟨_, rfl⟩
  have hm' : (da.length : Int) + db.length + 1 = (m : Int) := by omega
  refine enter (args := [.slice A1 da.length cap1, .slice A2 db.length cap2]) Try.func56 rfl rfl ?_
  intro A hF
  refine wp_seq ?_
  refine wp_region_lit ?_
  refine ev0 [0] tab hF hH rfl (by first | exact trivial | (simp only [All, inK_i64, inK_u64, inK_u32, inK_u8, inK_i32, max_i64, max_u64, IntKind.bits, Int.reduceToNat, Int.reduceAdd, Nat.reducePow, Int.reducePow, and_true, true_and, and_self] <;> omega)) ?_
  intro A w hF hH
  refine wpList_nil ?_
  refine wp_seq ?_
  refine wp_region_lit ?_
  refine ev0 [0, 0, 0, 0, 0, 0] tab hF hH rfl (by first | exact trivial | (simp only [All, inK_i64, inK_u64, inK_u32, inK_u8, inK_i32, max_i64, max_u64, IntKind.bits, Int.reduceToNat, Int.reduceAdd, Nat.reducePow, Int.reducePow, and_true, true_and, and_self] <;> omega)) ?_
  intro A w hF hH
  simp only [hm'] at hF
  refine list_act hF rfl ?_
  refine op_make (m := m) hF tab rfl rfl rfl rfl rfl rfl rfl rfl ?_ ?_ hH ?_
  · first | omega | (simp [maxLen]; omega) | (simp [maxLen])
  · first | omega | (simp only; omega)
  intro b A w hF hH
  have hH : Hp κ w (row b (List.replicate m [Value.int .u32 0]).flatten 108 :: C) := hH
  rw [zeros_u32] at hH
  refine ev0 [0] tab hF hH rfl (by first | exact trivial | (simp only [All, inK_i64, inK_u64, inK_u32, inK_u8, inK_i32, max_i64, max_u64, IntKind.bits, Int.reduceToNat, Int.reduceAdd, Nat.reducePow, Int.reducePow, and_true, true_and, and_self] <;> omega)) ?_
  intro A w hF hH
  refine wpList_nil ?_
  refine wp_seq ?_
  refine wp_seq ?_
  refine wp_region_lit ?_
  refine ev0 [0, 0, 0] tab hF hH rfl (by first | exact trivial | (simp only [All, inK_i64, inK_u64, inK_u32, inK_u8, inK_i32, max_i64, max_u64, IntKind.bits, Int.reduceToNat, Int.reduceAdd, Nat.reducePow, Int.reducePow, and_true, true_and, and_self] <;> omega)) ?_
  intro A w hF hH
  refine wpList_nil ?_
  refine wp_block ?_
  refine loop_j (fun (i : Nat) A w => i ≤ da.length ∧ ∃ pre cur, pre.length = i ∧ cur.length = m - i ∧ Limbs cur ∧ pre ++ mulr (da.drop i) db cur = mulr da db (List.replicate m 0) ∧ Fr 56 A [(19, .int .i64 i), (18, .int .i64 da.length), (17, .slice A1 da.length cap1), (1, .slice A2 db.length cap2), (5, .slice (some ⟨b, 0, none⟩) m m)] ∧ Hp κ w (row b ((pre ++ cur).map (Value.int .u32)) 108 :: C)) (fun i => da.length - i) 0 ⟨Nat.zero_le _, [], List.replicate m 0, rfl, by simp, (fun d hd => by rw [List.mem_replicate] at hd; omega), rfl, Fr.to hF ⟨rfl, rfl, rfl, rfl, rfl, trivial⟩, hH⟩ ?_
  rintro i A w ⟨hi, pre, cur, hpre, hcur, hlim, hmul, hF, hH⟩
  refine wp_seq ?_
  refine wp_region_lit ?_
  by_cases hlt : i < da.length
  · refine ev0 [1] tab hF hH rfl (by first | exact trivial | (simp only [All, inK_i64, inK_u64, inK_u32, inK_u8, inK_i32, max_i64, max_u64, IntKind.bits, Int.reduceToNat, Int.reduceAdd, Nat.reducePow, Int.reducePow, and_true, true_and, and_self] <;> omega)) ?_
    intro A w hF hH
    refine wpList_nil ?_
    refine wp_seq ?_
    refine cond_t hF rfl rfl ?_
    refine wp_skip ?_
    refine wp_seq ?_
    refine wp_block ?_
    refine wp_seq ?_
    refine wp_region_lit ?_
    obtain ⟨b1, off1, rfl⟩ := ha.rd.addr (by omega)
    have hx := ha.limbs da[i] (List.getElem_mem hlt)
    refine evF [] [] (LFok.cons (ha.rd.at_ (fun _ _ => rfl) i hlt) (LFok.nil _ _)) [0, 0, 1, 0, 0] tab hF hH rfl (by first | exact trivial | (simp only [All, inK_i64, inK_u64, inK_u32, inK_u8, inK_i32, max_i64, max_u64, IntKind.bits, Int.reduceToNat, Int.reduceAdd, Nat.reducePow, Int.reducePow, and_true, true_and, and_self] <;> omega)) ?_
    intro A w hF hH
    refine wpList_nil ?_
    refine wp_seq ?_
    refine wp_region_lit ?_
    rw [List.drop_eq_getElem_cons hlt] at hmul
    simp only [mulr, hcur] at hmul
    generalize da[i] = x at *
    refine ev0 [0, 0] tab hF hH rfl (by first | exact trivial | (simp only [All, inK_i64, inK_u64, inK_u32, inK_u8, inK_i32, max_i64, max_u64, IntKind.bits, Int.reduceToNat, Int.reduceAdd, Nat.reducePow, Int.reducePow, and_true, true_and, and_self] <;> omega)) ?_
    intro A w hF hH
    refine list_act hF rfl ?_
    refine op_slice (l := i) (h := m) (m := m) hF tab rfl rfl rfl rfl rfl rfl ?_ ?_ ?_ (by decide) ?_ ?_ ?_ ?_
    · first | exact rfl | exact ⟨_, rfl⟩
    · first | exact rfl | exact ⟨_, rfl⟩
    · first | exact rfl | exact ⟨_, rfl⟩
    · omega
    · omega
    · omega
    intro A hF
    rw [if_neg (by omega)] at hF
    simp only [Option.map_some, add_off, Nat.mul_one, Nat.zero_add] at hF
    refine list_act hF rfl ?_
    refine op_call hF rfl rfl rfl rfl rfl rfl isF73 (carrier_calls κ b i (m - i) (m - i) _ _ hH) ?_
    rintro e w ⟨bc, bo, rfl, hH⟩
    refine ⟨_, rfl, fun A hF => ?_⟩
    refine ev0 [0] tab hF hH rfl (by first | exact trivial | (simp only [All, inK_i64, inK_u64, inK_u32, inK_u8, inK_i32, max_i64, max_u64, IntKind.bits, Int.reduceToNat, Int.reduceAdd, Nat.reducePow, Int.reducePow, and_true, true_and, and_self] <;> omega)) ?_
    intro A w hF hH
    refine wpList_nil ?_
    refine wp_seq ?_
    refine wp_region_lit ?_
    have hmi : (m : Int) - i = ((m - i : Nat) : Int) := by omega
    refine ev0 [0, 0, 0, 0, 0] tab hF hH rfl (by first | exact trivial | (simp only [All, inK_i64, inK_u64, inK_u32, inK_u8, inK_i32, max_i64, max_u64, IntKind.bits, Int.reduceToNat, Int.reduceAdd, Nat.reducePow, Int.reducePow, and_true, true_and, and_self] <;> omega)) ?_
    intro A w hF hH
    simp only [hmi] at hF
    refine wpList_nil ?_
    refine wp_block ?_
    refine loop_j (fun (k : Nat) A w => k ≤ m - i ∧ ∃ dn rest c, dn.length = k ∧ rest.length = m - i - k ∧ 0 ≤ c ∧ c ≤ 4294967295 ∧ Limbs rest ∧ dn ++ macc (m - i - k) c x (db.drop k) rest = macc (m - i) 0 x db cur ∧ Fr 56 A [(32, .int .i64 k), (31, .int .i64 (m - i : Nat)), (19, .int .i64 i), (18, .int .i64 da.length), (17, .slice (some ⟨b1, off1, none⟩) da.length cap1), (1, .slice A2 db.length cap2), (5, .slice (some ⟨b, 0, none⟩) m m), (6, .int .i64 i), (7, .int .u32 x), (8, .func (.func 83) #[] #[.pointer (some ⟨bc, 0, none⟩), .pointer (some ⟨bo, 0, none⟩)])] ∧ Hp κ w (row bc [.int .u64 c] 68 :: row bo [.slice (some ⟨b, i, none⟩) (m - i) (m - i)] 63 :: row b ((pre ++ (dn ++ rest)).map (Value.int .u32)) 108 :: C)) (fun k => m - i - k) 0 ⟨Nat.zero_le _, [], cur, 0, rfl, hcur, by omega, by omega, hlim, rfl, Fr.to hF ⟨rfl, rfl, rfl, rfl, rfl, rfl, rfl, rfl, rfl, rfl, trivial⟩, hH⟩ ?_
    rintro k A w ⟨hk, dn, rest, c, hdn, hrest, hc0, hc1, hlr, hmacc, hF, hH⟩
    refine wp_seq ?_
    refine wp_region_lit ?_
    by_cases hltk : k < m - i
    · refine ev0 [1] tab hF hH rfl (by first | exact trivial | (simp only [All, inK_i64, inK_u64, inK_u32, inK_u8, inK_i32, max_i64, max_u64, IntKind.bits, Int.reduceToNat, Int.reduceAdd, Nat.reducePow, Int.reducePow, and_true, true_and, and_self] <;> omega)) ?_
      intro A w hF hH
      refine wpList_nil ?_
      refine wp_seq ?_
      refine cond_t hF rfl rfl ?_
      refine wp_skip ?_
      refine wp_seq ?_
      refine wp_block ?_
      refine wp_seq ?_
      refine wp_region_lit ?_
      refine ev0 [0, 0] tab hF hH rfl (by first | exact trivial | (simp only [All, inK_i64, inK_u64, inK_u32, inK_u8, inK_i32, max_i64, max_u64, IntKind.bits, Int.reduceToNat, Int.reduceAdd, Nat.reducePow, Int.reducePow, and_true, true_and, and_self] <;> omega)) ?_
      intro A w hF hH
      refine wpList_nil ?_
      obtain ⟨z, hz⟩ : ∃ z, m - i - k = z + 1 := ⟨m - i - k - 1, by omega⟩
      obtain ⟨o, rest, rfl⟩ : ∃ o r, rest = o :: r := by
        cases rest with
        | nil => simp at hrest; omega
        | cons o r => exact ⟨o, r, rfl⟩
      have ho := (Limbs.cons.1 hlr).1
      have hy := hd_range (hb.limbs.drop k)
      have hp := limb_prod hx.1 hx.2 hy.1 hy.2
      have hcell : ∀ j u, [Value.int .u32 o][j]? = some u → ((pre ++ (dn ++ o :: rest)).map (Value.int .u32))[(i + k) + j]? = some u := by
        intro j u hu
        cases j with
        | zero =>
          simp only [List.getElem?_cons_zero, Option.some.injEq] at hu
          rw [← hu, Nat.add_zero, List.getElem?_map, List.getElem?_append_right (by omega), List.getElem?_append_right (by omega), show i + k - pre.length - dn.length = 0 from by omega]
          rfl
        | succ j => simp at hu
      refine dr_reads (by kernel_rfl) [] [row bc [.int .u64 c] 68, row bo [.slice (some ⟨b, i, none⟩) (m - i) (m - i)] 63, row b ((pre ++ (dn ++ o :: rest)).map (Value.int .u32)) 108] [16] [(0, 0), (1, 0), (2, 0), (3, 0), (4, 0), (5, 0), (8, 0), (9, 0), (10, 0), (11, 0), (12, 0), (13, 1), (14, 0)] 4 tab (LFok.cons (At.own 2 rfl hcell) (LFok.nil _ _)) (by kernel_rfl) rfl hF hH (by kernel_rfl) rfl (by first | exact trivial | (simp only [All, inK_i64, inK_u64, inK_u32, inK_u8, inK_i32, max_i64, max_u64, IntKind.bits, Int.reduceToNat, Int.reduceAdd, Nat.reducePow, Int.reducePow, and_true, true_and, and_self] <;> omega)) ?_
      intro A w hF hH
      refine dr_act (k := 6) (by kernel_rfl) rfl hF rfl ?_
      refine op_call hF rfl rfl rfl rfl rfl rfl isF74 (at_calls κ _ db hb.rd hb.limbs (by omega) k _ _ hH) ?_
      rintro e w ⟨rfl, hH⟩
      refine ⟨_, rfl, fun A hF => ?_⟩
      refine ⟨fun _ => Keeps.of hH (K.le.refl _), ?_⟩
      refine dr_more [] [row bc [.int .u64 c] 68, row bo [.slice (some ⟨b, i, none⟩) (m - i) (m - i)] 63, row b ((pre ++ (dn ++ o :: rest)).map (Value.int .u32)) 108] [(7, 0), (15, 0)] 1 (K.le.refl _) tab (LFok.nil _ _) (by kernel_rfl) rfl hF hH (by kernel_rfl) rfl (by first | exact trivial | (simp only [All, inK_i64, inK_u64, inK_u32, inK_u8, inK_i32, max_i64, max_u64, IntKind.bits, Int.reduceToNat, Int.reduceAdd, Nat.reducePow, Int.reducePow, and_true, true_and, and_self] <;> omega)) ?_
      intro A hF
      refine dr_act (k := 16) (by kernel_rfl) rfl hF rfl ?_
      refine op_call hF rfl rfl rfl rfl rfl rfl isF83 (put_calls κ _ _ bc bo b i (m - i) (m - i) _ k _ c hltk (by simp; omega) (by omega) hc0 (by omega) hH) ?_
      rintro e w ⟨rfl, hH⟩
      refine ⟨_, rfl, fun A hF => ?_⟩
      refine ⟨(fun h => absurd h (by decide)), ?_⟩
      refine dr_done (by kernel_rfl) ?_ _
      refine wp_region_lit ?_
      rw [hz] at hmacc
      simp only [macc, hd, List.headD_cons, List.tail_cons] at hmacc
      have hset : (pre ++ (dn ++ o :: rest)).set (i + k) ((x * hd (db.drop k) + o + c) % 4294967296) = pre ++ ((dn ++ [(x * hd (db.drop k) + o + c) % 4294967296]) ++ rest) := by
        rw [← hpre, List.set_append_right _ _ (by omega), show pre.length + k - pre.length = k from by omega, ← hdn, List.set_append_right _ _ (Nat.le_refl _), Nat.sub_self, List.set_cons_zero]
        simp
      rw [hset] at hH
      refine ev0 [0, 0] tab hF hH rfl (by first | exact trivial | (simp only [All, inK_i64, inK_u64, inK_u32, inK_u8, inK_i32, max_i64, max_u64, IntKind.bits, Int.reduceToNat, Int.reduceAdd, Nat.reducePow, Int.reducePow, and_true, true_and, and_self] <;> omega)) ?_
      intro A w hF hH
      refine wpList_nil ?_
      refine ⟨k + 1, ⟨by omega, dn ++ [(x * hd (db.drop k) + o + c) % 4294967296], rest, (x * hd (db.drop k) + o + c) / 4294967296, by simp [hdn], by simp at hrest; omega, by omega, by omega, (Limbs.cons.1 hlr).2, ?_, Fr.to hF ⟨rfl, rfl, rfl, rfl, rfl, rfl, rfl, rfl, rfl, rfl, trivial⟩, hH⟩, by omega⟩
      rw [← hmacc, show m - i - (k + 1) = z from by omega, List.append_assoc, ← List.tail_drop]; rfl
    · skip
      refine ev0 [2] tab hF hH rfl (by first | exact trivial | (simp only [All, inK_i64, inK_u64, inK_u32, inK_u8, inK_i32, max_i64, max_u64, IntKind.bits, Int.reduceToNat, Int.reduceAdd, Nat.reducePow, Int.reducePow, and_true, true_and, and_self] <;> omega)) ?_
      intro A w hF hH
      refine wpList_nil ?_
      refine wp_seq ?_
      refine cond_f hF rfl rfl ?_
      refine wp_exit ?_
      repeat (first | refine then_exit ?_ | refine ng_exit ?_ | refine blk_exit ?_ | refine blk_exit_ne rfl ?_)
      refine wp_region_lit ?_
      have hk0 : m - i - k = 0 := by omega
      rw [hk0] at hmacc hrest
      have hr0 : rest = [] := List.eq_nil_of_length_eq_zero hrest
      subst hr0
      simp only [macc, List.append_nil] at hmacc hH
      rw [hmacc] at hH
      have hlen := macc_length (m - i) 0 x db cur
      obtain ⟨r0, r, hr⟩ : ∃ r0 r, macc (m - i) 0 x db cur = r0 :: r := by
        cases h : macc (m - i) 0 x db cur with
        | nil => rw [h] at hlen; simp at hlen; omega
        | cons r0 r => exact ⟨r0, r, rfl⟩
      have hlm := macc_limbs (m - i) 0 x db cur
      rw [hr] at hH hlen hmul hlm
      simp only [hd, List.headD_cons, List.tail_cons] at hmul
      refine ev0 [0, 0] tab hF hH rfl (by first | exact trivial | (simp only [All, inK_i64, inK_u64, inK_u32, inK_u8, inK_i32, max_i64, max_u64, IntKind.bits, Int.reduceToNat, Int.reduceAdd, Nat.reducePow, Int.reducePow, and_true, true_and, and_self] <;> omega)) ?_
      intro A w hF hH
      refine wpList_nil ?_
      refine ⟨i + 1, ⟨by omega, pre ++ [r0], r, by simp [hpre], by simp at hlen; omega, (Limbs.cons.1 hlm).2, by rw [List.append_assoc]; exact hmul, Fr.to hF ⟨rfl, rfl, rfl, rfl, rfl, trivial⟩, ?_⟩, by omega⟩
      have hH := hH.tail.tail
      rw [List.append_assoc]; exact hH
  · skip
    refine ev0 [2] tab hF hH rfl (by first | exact trivial | (simp only [All, inK_i64, inK_u64, inK_u32, inK_u8, inK_i32, max_i64, max_u64, IntKind.bits, Int.reduceToNat, Int.reduceAdd, Nat.reducePow, Int.reducePow, and_true, true_and, and_self] <;> omega)) ?_
    intro A w hF hH
    refine wpList_nil ?_
    refine wp_seq ?_
    refine cond_f hF rfl rfl ?_
    refine wp_exit ?_
    repeat (first | refine then_exit ?_ | refine ng_exit ?_ | refine blk_exit ?_ | refine blk_exit_ne rfl ?_)
    refine wp_seq ?_
    refine wp_region_lit ?_
    have him : da.drop i = [] := List.drop_eq_nil_of_le (by omega)
    rw [him] at hmul
    simp only [mulr] at hmul
    rw [hmul] at hH
    obtain ⟨κ', l, hH, hro⟩ := row_freeze hH
    have hs := mulr_spec da db (List.replicate db.length 0) 1 (by simp) ha.limbs hb.limbs (fun d hd => by rw [List.mem_replicate] at hd; omega)
    have e0 : List.replicate db.length (0 : Int) ++ List.replicate (da.length + 1) 0 = List.replicate m 0 := by rw [List.replicate_append_replicate]; congr 1; omega
    rw [e0, List.length_replicate, val_zeros] at hs
    obtain ⟨hs1, hs2, hs3⟩ := hs
    have hlen : (mulr da db (List.replicate m 0)).length = m := by rw [hs2]; omega
    have hrd : Rd κ' [] 1 u32 (.slice (some ⟨b, 0, none⟩) m m) (mulr da db (List.replicate m 0)) := hro.rd hlen.symm (Nat.le_refl _) (fun j u hu => by rw [u32_map] at hu; simpa using hu)
    refine ev0 [0] tab hF hH rfl (by first | exact trivial | (simp only [All, inK_i64, inK_u64, inK_u32, inK_u8, inK_i32, max_i64, max_u64, IntKind.bits, Int.reduceToNat, Int.reduceAdd, Nat.reducePow, Int.reducePow, and_true, true_and, and_self] <;> omega)) ?_
    intro A w hF hH
    refine list_act hF rfl ?_
    refine op_call hF rfl rfl rfl rfl rfl rfl isF75 (cut_calls κ' _ _ hrd hs1 (by rw [hlen]; omega) _ _ hH) ?_
    rintro e w ⟨v, ds, rfl, hn, hH⟩
    refine ⟨_, rfl, fun A hF => ?_⟩
    refine ev0 [0] tab hF hH rfl (by first | exact trivial | (simp only [All, inK_i64, inK_u64, inK_u32, inK_u8, inK_i32, max_i64, max_u64, IntKind.bits, Int.reduceToNat, Int.reduceAdd, Nat.reducePow, Int.reducePow, and_true, true_and, and_self] <;> omega)) ?_
    intro A w hF hH
    refine wpList_nil ?_
    refine wp_ret ?_
    repeat (first | refine then_ret ?_ | refine blk_ret ?_ | refine ng_ret ?_)
    refine ret (M := []) (hs := []) tab hF hH rfl (by first | exact trivial | (simp only [All, inK_i64, inK_u64, inK_u32, inK_u8, inK_i32, max_i64, max_u64, IntKind.bits, Int.reduceToNat, Int.reduceAdd, Nat.reducePow, Int.reducePow, and_true, true_and, and_self] <;> omega)) ?_
    rw [hs3, ha.val, hb.val, Int.add_zero] at hn
    exact ⟨κ', v, ds, l, rfl, hn, hH⟩
end Go.Proofs.Try
