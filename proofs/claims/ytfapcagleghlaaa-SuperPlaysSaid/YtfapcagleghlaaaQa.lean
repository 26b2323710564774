/- Contracts of the ratios' functions, by numbers: made, compared, divided. -/
import Derived.Test.YtfapcagleghlaaaPc
set_option linter.all false
namespace Go.Proofs.Try
open Go Go.Sep

def BIG : Int := 115792089237316195423570985008687907853269984665640564039457584007913129639936
/-- A natural number. -/
def Nt (κ : K) (v : Value) (n : Int) : Prop := ∃ ds, NatR κ v n ds
theorem Nt.mono {κ κ' : K} {v : Value} {n : Int} (h : Nt κ v n) (l : κ.le κ') : Nt κ' v n := let ⟨ds, h⟩ := h; ⟨ds, h.mono l⟩
theorem Nt.nonneg {κ : K} {v : Value} {n : Int} (h : Nt κ v n) : 0 ≤ n := by
  obtain ⟨ds, h⟩ := h
  rw [← h.val]; exact val_nonneg h.limbs
theorem NatR.short {κ : K} {v : Value} {n : Int} {ds : List Int} (h : NatR κ v n ds) (hn : n < BIG) : ds.length ≤ 8 := by
  rcases Nat.lt_or_ge 8 ds.length with g | g
  · have hl : Limbs (List.replicate 8 (4294967295 : Int)) := fun d hd => by rw [List.mem_replicate] at hd; omega
    have := val_lt_of_len hl h.limbs h.canon (by simpa using g)
    rw [h.val] at this
    have e : Try.val (List.replicate 8 (4294967295 : Int)) = BIG - 1 := by decide
    rw [e] at this
    omega
  · exact g
theorem Nt.nil (κ : K) : Nt κ (.slice none 0 0) 0 := ⟨[], Rd.nil, Limbs.nil, (fun x hx => by simp at hx), rfl, by simp⟩
theorem Nt.zero_iff {κ : K} {A : Option Addr} {n cap : Nat} {x : Int} (h : Nt κ (.slice A n cap) x) : n = 0 ↔ x = 0 := by
  obtain ⟨ds, h⟩ := h
  have h1 := canon_nil_iff h.limbs h.canon
  obtain ⟨A', cap', e, _⟩ := h.rd.form
  simp only [Value.slice.injEq] at e
  rw [h.val] at h1
  rw [e.2.1, ← h1]
  exact List.length_eq_zero_iff
theorem Nt.form {κ : K} {v : Value} {x : Int} (h : Nt κ v x) : ∃ A n cap, v = .slice A n cap := by
  obtain ⟨ds, h⟩ := h
  obtain ⟨A', cap', e, _⟩ := h.rd.form
  exact ⟨_, _, _, e⟩
/-- A slice's value. -/
structure SV where
  a : Option Addr
  n : Nat
  c : Nat
abbrev SV.v (x : SV) : Value := .slice x.a x.n x.c
theorem Nt.sv {κ : K} {v : Value} {x : Int} (h : Nt κ v x) : ∃ s : SV, v = s.v := let ⟨A, n, c, e⟩ := h.form; ⟨⟨A, n, c⟩, e⟩
section
variable {κ : K} {va vb : Value} {a b : Int} {w : World} {C : List HP}
abbrev NtRes (κ : K) (C : List HP) (n : Int) (e : Ending) (w' : World) : Prop := ∃ κ', ∃ x : SV, κ.le κ' ∧ e = .returned x.v ∧ Nt κ' x.v n ∧ Hp κ' w' C
theorem NtRes.of {n : Int} {e : Ending} {w' : World} (h : ∃ κ' v ds, κ.le κ' ∧ e = .returned v ∧ NatR κ' v n ds ∧ Hp κ' w' C) : NtRes κ C n e w' := by
  obtain ⟨κ', v, ds, l, e, h, hH⟩ := h
  have hn : Nt κ' v n := ⟨ds, h⟩
  obtain ⟨x, rfl⟩ := hn.sv
  exact ⟨κ', x, l, e, hn, hH⟩
theorem nt_of {n : Int} (h0 : 0 ≤ n) (h1 : n ≤ 18446744073709551615) (hH : Hp κ w C) : Calls Try.prog 59 #[.int .u64 n] w (NtRes κ C n) :=
  (of_calls κ n h0 h1 w C hH).mono fun _ _ h => NtRes.of h
theorem nt_add (ha : Nt κ va a) (hb : Nt κ vb b) (h1 : a < BIG) (h2 : b < BIG) (hH : Hp κ w C) : Calls Try.prog 85 #[va, vb] w (NtRes κ C (a + b)) := by
  obtain ⟨da, ha⟩ := ha
  obtain ⟨db, hb⟩ := hb
  have := ha.short h1
  have := hb.short h2
  exact (add_calls κ va vb a b da db ha hb (by omega) (by omega) w C hH).mono fun _ _ h => NtRes.of h
theorem nt_mul (ha : Nt κ va a) (hb : Nt κ vb b) (h1 : a < BIG) (h2 : b < BIG) (hH : Hp κ w C) : Calls Try.prog 56 #[va, vb] w (NtRes κ C (a * b)) := by
  obtain ⟨da, ha⟩ := ha
  obtain ⟨db, hb⟩ := hb
  have := ha.short h1
  have := hb.short h2
  exact (mul_nat_calls κ va vb a b da db ha hb (by omega) w C hH).mono fun _ _ h => NtRes.of h
theorem nt_cmp (ha : Nt κ va a) (hb : Nt κ vb b) (hH : Hp κ w C) : Calls Try.prog 55 #[va, vb] w (fun e w' => e = .returned (.int .i64 (cmpI a b)) ∧ Hp κ w' C) := by
  obtain ⟨da, ha⟩ := ha
  obtain ⟨db, hb⟩ := hb
  exact cmp_nat_calls κ va vb a b da db ha hb w C hH
theorem nt_check (ha : Nt κ va a) (hH : Hp κ w C) : Calls Try.prog 91 #[va] w (fun e w' => e = .returned (.bool true) ∧ Hp κ w' C) := by
  obtain ⟨da, ha⟩ := ha
  exact nat_check_calls κ va a da ha w C hH
theorem nt_sub (ha : Nt κ va a) (hb : Nt κ vb b) (hle : b ≤ a) (hH : Hp κ w C) :
    Calls Try.prog 92 #[va, vb] w (fun e w' => ∃ κ', ∃ x : SV, κ.le κ' ∧ e = .returned (.tuple #[x.v, .int .i64 0]) ∧ Nt κ' x.v (a - b) ∧ Hp κ' w' C) := by
  obtain ⟨da, ha⟩ := ha
  obtain ⟨db, hb⟩ := hb
  exact (sub_calls κ va vb a b da db ha hb hle w C hH).mono fun _ _ h => by
    obtain ⟨κ', v, ds, l, e, h, hH⟩ := h
    have hn : Nt κ' v (a - b) := ⟨ds, h⟩
    obtain ⟨x, rfl⟩ := hn.sv
    exact ⟨κ', x, l, e, hn, hH⟩
end
theorem cmpI_lss {a b : Int} : cmpI a b < 0 ↔ a < b := by
  unfold cmpI; split
  · omega
  · split <;> omega
theorem cmpI_gtr {a b : Int} : 0 < cmpI a b ↔ b < a := by
  unfold cmpI; split
  · omega
  · split <;> omega

set_option maxRecDepth 20000 in
theorem quo_calls (N : Nat) : ∀ (κ : K) (va vb : Value) (a b : Int) (w : World) (C : List HP), Nt κ va a → Nt κ vb b → 0 < b → a < 2 ^ 250 → b < 2 ^ 251 → (a + 1 - b).toNat < N → Hp κ w C →
    Calls Try.prog 89 #[va, vb] w (fun e w' => ∃ κ', ∃ q r : SV, κ.le κ' ∧ e = .returned (.tuple #[q.v, r.v]) ∧ Nt κ' q.v (a / b) ∧ Nt κ' r.v (a % b) ∧ Hp κ' w' C) := by
  induction N with
  | zero => intro κ va vb a b w C _ _ _ _ _ h; omega
  | succ N ih =>
  intro κ va vb a b w C ha hb h0 hs1 hs2 hN hH
  have ha0 := ha.nonneg
  refine enter (args := [va, vb]) Try.func89 rfl rfl ?_
  intro A hF
  refine wp_seq ?_
  refine wp_region_lit ?_
  refine ev0 [0, 0] tab hF hH rfl (by first | exact trivial | (simp only [All, inK_i64, inK_u64, inK_u32, inK_u8, inK_i32, max_i64, max_u64, IntKind.bits, Int.reduceToNat, Int.reduceAdd, Nat.reducePow, Int.reducePow, and_true, true_and, and_self] <;> omega)) ?_
  intro A w hF hH
  refine wpList_nil ?_
  refine wp_seq ?_
  refine wp_seq ?_
  refine wp_region_lit ?_
  refine ev0 [0, 0] tab hF hH rfl (by first | exact trivial | (simp only [All, inK_i64, inK_u64, inK_u32, inK_u8, inK_i32, max_i64, max_u64, IntKind.bits, Int.reduceToNat, Int.reduceAdd, Nat.reducePow, Int.reducePow, and_true, true_and, and_self] <;> omega)) ?_
  intro A w hF hH
  refine list_act hF rfl ?_
  refine op_call hF rfl rfl rfl rfl rfl rfl isF55 (nt_cmp ha hb hH) ?_
  rintro e w ⟨rfl, hH⟩
  refine ⟨_, rfl, fun A hF => ?_⟩
  obtain ⟨xa, rfl⟩ := ha.sv
  by_cases hlt : a < b
  · have hc := cmpI_lss.2 hlt
    refine ev0 [1] tab hF hH rfl (by first | exact trivial | (simp only [All, inK_i64, inK_u64, inK_u32, inK_u8, inK_i32, max_i64, max_u64, IntKind.bits, Int.reduceToNat, Int.reduceAdd, Nat.reducePow, Int.reducePow, and_true, true_and, and_self] <;> omega)) ?_
    intro A w hF hH
    refine wpList_nil ?_
    refine cond_t hF rfl rfl ?_
    refine wp_seq ?_
    refine wp_region_lit ?_
    refine ev0 [0, 0, 0] tab hF hH rfl (by first | exact trivial | (simp only [All, inK_i64, inK_u64, inK_u32, inK_u8, inK_i32, max_i64, max_u64, IntKind.bits, Int.reduceToNat, Int.reduceAdd, Nat.reducePow, Int.reducePow, and_true, true_and, and_self] <;> omega)) ?_
    intro A w hF hH
    refine wpList_nil ?_
    refine wp_ret ?_
    repeat (first | refine then_ret ?_ | refine blk_ret ?_ | refine ng_ret ?_)
    refine ret (M := []) (hs := []) tab hF hH rfl (by first | exact trivial | (simp only [All, inK_i64, inK_u64, inK_u32, inK_u8, inK_i32, max_i64, max_u64, IntKind.bits, Int.reduceToNat, Int.reduceAdd, Nat.reducePow, Int.reducePow, and_true, true_and, and_self] <;> omega)) ?_
    refine ⟨κ, ⟨none, 0, 0⟩, xa, K.le.refl κ, rfl, ?_, ?_, hH⟩
    · rw [Int.ediv_eq_zero_of_lt ha0 hlt]; exact Nt.nil κ
    · rw [Int.emod_eq_of_lt ha0 hlt]; exact ha
  · have hc : ¬ cmpI a b < 0 := fun h => hlt (cmpI_lss.1 h)
    have hbig : (2 : Int) ^ 250 < BIG := by decide
    have hbig2 : (2 : Int) ^ 251 < BIG := by decide
    have hbig3 : (2 : Int) ^ 251 = 2 * 2 ^ 250 := by decide
    generalize (2 : Int) ^ 250 = S at *
    generalize (2 : Int) ^ 251 = S2 at *
    refine ev0 [2] tab hF hH rfl (by first | exact trivial | (simp only [All, inK_i64, inK_u64, inK_u32, inK_u8, inK_i32, max_i64, max_u64, IntKind.bits, Int.reduceToNat, Int.reduceAdd, Nat.reducePow, Int.reducePow, and_true, true_and, and_self] <;> omega)) ?_
    intro A w hF hH
    refine wpList_nil ?_
    refine cond_f hF rfl rfl ?_
    refine wp_skip ?_
    refine wp_seq ?_
    refine wp_region_lit ?_
    refine ev0 [0, 0, 0] tab hF hH rfl (by first | exact trivial | (simp only [All, inK_i64, inK_u64, inK_u32, inK_u8, inK_i32, max_i64, max_u64, IntKind.bits, Int.reduceToNat, Int.reduceAdd, Nat.reducePow, Int.reducePow, and_true, true_and, and_self] <;> omega)) ?_
    intro A w hF hH
    refine list_act hF rfl ?_
    refine op_call hF rfl rfl rfl rfl rfl rfl isF85 (nt_add hb hb (by omega) (by omega) hH) ?_
    rintro e w ⟨κ1, bb, l1, rfl, hbb, hH⟩
    refine ⟨_, rfl, fun A hF => ?_⟩
    refine list_act hF rfl ?_
    refine op_call hF rfl rfl rfl rfl rfl rfl isF89 (ih κ1 _ _ a (b + b) _ C (ha.mono l1) hbb (by omega) hs1 (by omega) (by omega) hH) ?_
    rintro e w ⟨κ2, q, r, l2, rfl, hq, hr, hH⟩
    refine ⟨_, rfl, fun A hF => ?_⟩
    refine ev0 [0, 0, 0, 0, 0] tab hF hH rfl (by first | exact trivial | (simp only [All, inK_i64, inK_u64, inK_u32, inK_u8, inK_i32, max_i64, max_u64, IntKind.bits, Int.reduceToNat, Int.reduceAdd, Nat.reducePow, Int.reducePow, and_true, true_and, and_self] <;> omega)) ?_
    intro A w hF hH
    refine wpList_nil ?_
    refine wp_seq ?_
    refine wp_region_lit ?_
    have hq0 := hq.nonneg
    have hq1 : a / (b + b) ≤ a := Int.ediv_le_self _ ha0
    have hdm := Int.mul_ediv_add_emod a (b + b)
    have hr0 := Int.emod_nonneg a (b := b + b) (by omega)
    have hr1 := Int.emod_lt_of_pos a (b := b + b) (by omega)
    generalize a / (b + b) = Q at *
    generalize a % (b + b) = R at *
    refine ev0 [0, 0] tab hF hH rfl (by first | exact trivial | (simp only [All, inK_i64, inK_u64, inK_u32, inK_u8, inK_i32, max_i64, max_u64, IntKind.bits, Int.reduceToNat, Int.reduceAdd, Nat.reducePow, Int.reducePow, and_true, true_and, and_self] <;> omega)) ?_
    intro A w hF hH
    refine list_act hF rfl ?_
    refine op_call hF rfl rfl rfl rfl rfl rfl isF85 (nt_add hq hq (by omega) (by omega) hH) ?_
    rintro e w ⟨κ3, q2, l3, rfl, hq2, hH⟩
    refine ⟨_, rfl, fun A hF => ?_⟩
    refine ev0 [0] tab hF hH rfl (by first | exact trivial | (simp only [All, inK_i64, inK_u64, inK_u32, inK_u8, inK_i32, max_i64, max_u64, IntKind.bits, Int.reduceToNat, Int.reduceAdd, Nat.reducePow, Int.reducePow, and_true, true_and, and_self] <;> omega)) ?_
    intro A w hF hH
    refine wpList_nil ?_
    refine wp_seq ?_
    refine wp_seq ?_
    refine wp_region_lit ?_
    refine ev0 [0, 0] tab hF hH rfl (by first | exact trivial | (simp only [All, inK_i64, inK_u64, inK_u32, inK_u8, inK_i32, max_i64, max_u64, IntKind.bits, Int.reduceToNat, Int.reduceAdd, Nat.reducePow, Int.reducePow, and_true, true_and, and_self] <;> omega)) ?_
    intro A w hF hH
    have l13 := (l1.trans l2).trans l3
    refine list_act hF rfl ?_
    refine op_call hF rfl rfl rfl rfl rfl rfl isF55 (nt_cmp (hr.mono l3) (hb.mono l13) hH) ?_
    rintro e w ⟨rfl, hH⟩
    refine ⟨_, rfl, fun A hF => ?_⟩
    have hdm' : a = b * (Q + Q) + R := by rw [← hdm, Int.add_mul, Int.mul_add]
    by_cases hlt2 : R < b
    · have hc := cmpI_lss.2 hlt2
      refine ev0 [1] tab hF hH rfl (by first | exact trivial | (simp only [All, inK_i64, inK_u64, inK_u32, inK_u8, inK_i32, max_i64, max_u64, IntKind.bits, Int.reduceToNat, Int.reduceAdd, Nat.reducePow, Int.reducePow, and_true, true_and, and_self] <;> omega)) ?_
      intro A w hF hH
      refine wpList_nil ?_
      refine cond_t hF rfl rfl ?_
      refine wp_seq ?_
      refine wp_region_lit ?_
      refine ev0 [0, 0, 0, 0] tab hF hH rfl (by first | exact trivial | (simp only [All, inK_i64, inK_u64, inK_u32, inK_u8, inK_i32, max_i64, max_u64, IntKind.bits, Int.reduceToNat, Int.reduceAdd, Nat.reducePow, Int.reducePow, and_true, true_and, and_self] <;> omega)) ?_
      intro A w hF hH
      refine wpList_nil ?_
      refine wp_ret ?_
      repeat (first | refine then_ret ?_ | refine blk_ret ?_ | refine ng_ret ?_)
      refine ret (M := []) (hs := []) tab hF hH rfl (by first | exact trivial | (simp only [All, inK_i64, inK_u64, inK_u32, inK_u8, inK_i32, max_i64, max_u64, IntKind.bits, Int.reduceToNat, Int.reduceAdd, Nat.reducePow, Int.reducePow, and_true, true_and, and_self] <;> omega)) ?_
      have hu := (Int.ediv_emod_unique (a := a) (b := b) (r := R) (q := Q + Q) h0).2 ⟨by rw [hdm']; exact Int.add_comm _ _, hr0, hlt2⟩
      rw [hu.1, hu.2]
      exact ⟨κ3, _, _, l13, rfl, hq2, hr.mono l3, hH⟩
    · have hc : ¬ cmpI R b < 0 := fun h => hlt2 (cmpI_lss.1 h)
      refine ev0 [2] tab hF hH rfl (by first | exact trivial | (simp only [All, inK_i64, inK_u64, inK_u32, inK_u8, inK_i32, max_i64, max_u64, IntKind.bits, Int.reduceToNat, Int.reduceAdd, Nat.reducePow, Int.reducePow, and_true, true_and, and_self] <;> omega)) ?_
      intro A w hF hH
      refine wpList_nil ?_
      refine cond_f hF rfl rfl ?_
      refine wp_skip ?_
      refine wp_seq ?_
      refine wp_region_lit ?_
      refine ev0 [0, 0] tab hF hH rfl (by first | exact trivial | (simp only [All, inK_i64, inK_u64, inK_u32, inK_u8, inK_i32, max_i64, max_u64, IntKind.bits, Int.reduceToNat, Int.reduceAdd, Nat.reducePow, Int.reducePow, and_true, true_and, and_self] <;> omega)) ?_
      intro A w hF hH
      refine list_act hF rfl ?_
      refine op_call hF rfl rfl rfl rfl rfl rfl isF92 (nt_sub (hr.mono l3) (hb.mono l13) (by omega) hH) ?_
      rintro e w ⟨κ4, r2, l4, rfl, hr2, hH⟩
      refine ⟨_, rfl, fun A hF => ?_⟩
      refine ev0 [0, 0, 0, 0] tab hF hH rfl (by first | exact trivial | (simp only [All, inK_i64, inK_u64, inK_u32, inK_u8, inK_i32, max_i64, max_u64, IntKind.bits, Int.reduceToNat, Int.reduceAdd, Nat.reducePow, Int.reducePow, and_true, true_and, and_self] <;> omega)) ?_
      intro A w hF hH
      refine wpList_nil ?_
      refine wp_seq ?_
      refine wp_region_lit ?_
      refine ev0 [0] tab hF hH rfl (by first | exact trivial | (simp only [All, inK_i64, inK_u64, inK_u32, inK_u8, inK_i32, max_i64, max_u64, IntKind.bits, Int.reduceToNat, Int.reduceAdd, Nat.reducePow, Int.reducePow, and_true, true_and, and_self] <;> omega)) ?_
      intro A w hF hH
      refine list_act hF rfl ?_
      refine op_call hF rfl rfl rfl rfl rfl rfl isF59 (nt_of (n := 1) (by omega) (by omega) hH) ?_
      rintro e w ⟨κ5, o, l5, rfl, ho, hH⟩
      refine ⟨_, rfl, fun A hF => ?_⟩
      refine list_act hF rfl ?_
      refine op_call hF rfl rfl rfl rfl rfl rfl isF85 (nt_add ((hq2.mono l4).mono l5) ho (by omega) (by simp only [BIG]; omega) hH) ?_
      rintro e w ⟨κ6, q3, l6, rfl, hq3, hH⟩
      refine ⟨_, rfl, fun A hF => ?_⟩
      refine ev0 [0, 0, 0] tab hF hH rfl (by first | exact trivial | (simp only [All, inK_i64, inK_u64, inK_u32, inK_u8, inK_i32, max_i64, max_u64, IntKind.bits, Int.reduceToNat, Int.reduceAdd, Nat.reducePow, Int.reducePow, and_true, true_and, and_self] <;> omega)) ?_
      intro A w hF hH
      refine wpList_nil ?_
      refine wp_ret ?_
      repeat (first | refine then_ret ?_ | refine blk_ret ?_ | refine ng_ret ?_)
      refine ret (M := []) (hs := []) tab hF hH rfl (by first | exact trivial | (simp only [All, inK_i64, inK_u64, inK_u32, inK_u8, inK_i32, max_i64, max_u64, IntKind.bits, Int.reduceToNat, Int.reduceAdd, Nat.reducePow, Int.reducePow, and_true, true_and, and_self] <;> omega)) ?_
      have hu := (Int.ediv_emod_unique (a := a) (b := b) (r := R - b) (q := Q + Q + 1) h0).2 ⟨by rw [hdm', Int.mul_add b (Q + Q), Int.mul_one]; omega, by omega, by omega⟩
      rw [hu.1, hu.2]
      exact ⟨κ6, _, _, ((l13.trans l4).trans l5).trans l6, rfl, hq3, (hr2.mono l5).mono l6, hH⟩
theorem nt_quo {κ : K} {va vb : Value} {a b : Int} {w : World} {C : List HP} (ha : Nt κ va a) (hb : Nt κ vb b) (h0 : 0 < b) (h1 : a < 2 ^ 250) (h2 : b < 2 ^ 250) (hH : Hp κ w C) :
    Calls Try.prog 89 #[va, vb] w (fun e w' => ∃ κ', ∃ q r : SV, κ.le κ' ∧ e = .returned (.tuple #[q.v, r.v]) ∧ Nt κ' q.v (a / b) ∧ Nt κ' r.v (a % b) ∧ Hp κ' w' C) :=
  quo_calls ((a + 1 - b).toNat + 1) κ va vb a b w C ha hb h0 h1 (Int.lt_trans h2 (by decide)) (by omega) hH

set_option maxRecDepth 20000 in
theorem nt_gcd {κ : K} {va vb : Value} {a b : Int} {w : World} {C : List HP} (ha : Nt κ va a) (hb : Nt κ vb b) (h1 : a < 2 ^ 250) (h2 : b < 2 ^ 250) (hH : Hp κ w C) :
    Calls Try.prog 88 #[va, vb] w (NtRes κ C (Int.gcd a b)) := by
  refine enter (args := [va, vb]) Try.func88 rfl rfl ?_
  intro A hF
  refine wp_seq ?_
  refine wp_region_lit ?_
  refine ev0 [0] tab hF hH rfl (by first | exact trivial | (simp only [All, inK_i64, inK_u64, inK_u32, inK_u8, inK_i32, max_i64, max_u64, IntKind.bits, Int.reduceToNat, Int.reduceAdd, Nat.reducePow, Int.reducePow, and_true, true_and, and_self] <;> omega)) ?_
  intro A w hF hH
  refine wpList_nil ?_
  refine wp_scope_straight ?_
  refine wp_seq ?_
  refine wp_label ?_
  refine wp_seq ?_
  refine wp_block ?_
  obtain ⟨xa, rfl⟩ := ha.sv
  obtain ⟨xb, rfl⟩ := hb.sv
  refine loop_j (fun (p : Int × Int) A w => p.1 < 2 ^ 250 ∧ p.2 < 2 ^ 250 ∧ Int.gcd p.1 p.2 = Int.gcd a b ∧ ∃ κ1, ∃ x y : SV, κ.le κ1 ∧ Nt κ1 x.v p.1 ∧ Nt κ1 y.v p.2 ∧ Fr 19 A [(0, x.v), (1, y.v)] ∧ Hp κ1 w C) (fun p => p.2.toNat) (a, b) ⟨h1, h2, rfl, κ, _, _, K.le.refl κ, ha, hb, Fr.to hF ⟨rfl, rfl, trivial⟩, hH⟩ ?_
  rintro ⟨p, q⟩ A w ⟨hp, hq, hg, κ1, x, y, l1, hx, hy, hF, hH⟩
  have hz := hy.zero_iff
  have hq0 := hy.nonneg
  have hp0 := hx.nonneg
  simp only at hp hq hg hx hy hz hq0 hp0
  refine wp_block ?_
  refine wp_seq ?_
  refine wp_seq ?_
  refine wp_region_lit ?_
  by_cases h : q = 0
  · subst h
    have hn : (y.n : Int) = 0 := by have := hz.2 rfl; omega
    refine ev0 [0, 0, 1] tab hF hH rfl (by first | exact trivial | (simp only [All, inK_i64, inK_u64, inK_u32, inK_u8, inK_i32, max_i64, max_u64, IntKind.bits, Int.reduceToNat, Int.reduceAdd, Nat.reducePow, Int.reducePow, and_true, true_and, and_self] <;> omega)) ?_
    intro A w hF hH
    refine wpList_nil ?_
    refine cond_t hF rfl rfl ?_
    refine wp_exit ?_
    repeat (first | refine then_exit ?_ | refine ng_exit ?_ | refine blk_exit ?_ | refine blk_exit_ne rfl ?_)
    refine wp_seq ?_
    refine wp_region_lit ?_
    refine ev0 [0, 0] tab hF hH rfl (by first | exact trivial | (simp only [All, inK_i64, inK_u64, inK_u32, inK_u8, inK_i32, max_i64, max_u64, IntKind.bits, Int.reduceToNat, Int.reduceAdd, Nat.reducePow, Int.reducePow, and_true, true_and, and_self] <;> omega)) ?_
    intro A w hF hH
    refine wpList_nil ?_
    refine wp_ret ?_
    repeat (first | refine then_ret ?_ | refine blk_ret ?_ | refine ng_ret ?_)
    refine ret (M := []) (hs := []) tab hF hH rfl (by first | exact trivial | (simp only [All, inK_i64, inK_u64, inK_u32, inK_u8, inK_i32, max_i64, max_u64, IntKind.bits, Int.reduceToNat, Int.reduceAdd, Nat.reducePow, Int.reducePow, and_true, true_and, and_self] <;> omega)) ?_
    rw [← hg]
    refine ⟨κ1, x, l1, rfl, ?_, hH⟩
    have e : ((Int.gcd p 0 : Nat) : Int) = p := by simp; omega
    rw [e]; exact hx
  · have hn : ¬ (y.n : Int) = 0 := fun e => h (hz.1 (by omega))
    refine ev0 [0, 0, 2] tab hF hH rfl (by first | exact trivial | (simp only [All, inK_i64, inK_u64, inK_u32, inK_u8, inK_i32, max_i64, max_u64, IntKind.bits, Int.reduceToNat, Int.reduceAdd, Nat.reducePow, Int.reducePow, and_true, true_and, and_self] <;> omega)) ?_
    intro A w hF hH
    refine wpList_nil ?_
    refine cond_f hF rfl rfl ?_
    refine wp_skip ?_
    refine wp_seq ?_
    refine wp_region_lit ?_
    refine ev0 [0, 0] tab hF hH rfl (by first | exact trivial | (simp only [All, inK_i64, inK_u64, inK_u32, inK_u8, inK_i32, max_i64, max_u64, IntKind.bits, Int.reduceToNat, Int.reduceAdd, Nat.reducePow, Int.reducePow, and_true, true_and, and_self] <;> omega)) ?_
    intro A w hF hH
    refine list_act hF rfl ?_
    refine op_call hF rfl rfl rfl rfl rfl rfl isF89 (nt_quo hx hy (by omega) hp hq hH) ?_
    rintro e w ⟨κ2, q2, r2, l2, rfl, hq2, hr2, hH⟩
    refine ⟨_, rfl, fun A hF => ?_⟩
    refine ev0 [0, 0, 0, 0, 0] tab hF hH rfl (by first | exact trivial | (simp only [All, inK_i64, inK_u64, inK_u32, inK_u8, inK_i32, max_i64, max_u64, IntKind.bits, Int.reduceToNat, Int.reduceAdd, Nat.reducePow, Int.reducePow, and_true, true_and, and_self] <;> omega)) ?_
    intro A w hF hH
    refine wpList_nil ?_
    refine wp_region_lit ?_
    refine ev0 [0, 0, 0, 0] tab hF hH rfl (by first | exact trivial | (simp only [All, inK_i64, inK_u64, inK_u32, inK_u8, inK_i32, max_i64, max_u64, IntKind.bits, Int.reduceToNat, Int.reduceAdd, Nat.reducePow, Int.reducePow, and_true, true_and, and_self] <;> omega)) ?_
    intro A w hF hH
    refine wpList_nil ?_
    have := Int.emod_lt_of_pos p (b := q) (by omega)
    have := Int.emod_nonneg p (b := q) (by omega)
    refine ⟨(q, p % q), ⟨hq, by simp only; omega, ?_, κ2, _, _, l1.trans l2, hy.mono l2, hr2, Fr.to hF ⟨rfl, rfl, trivial⟩, hH⟩, by simp only; omega⟩
    rw [← hg]; exact gcd_mod' p q
end Go.Proofs.Try
