/- Contracts of the ratios' functions: the least ratio that is as much, sums. -/
import Derived.Test.YtfapcagleghlaaaQb
set_option linter.all false
namespace Go.Proofs.Try
open Go Go.Sep

section
variable {κ : K} {w : World} {C : List HP}
set_option maxRecDepth 20000 in
theorem rcheck_calls {x y : SV} {n d : Int} (h : RatR κ x y n d) (hd : 0 < d) (hH : Hp κ w C) : Calls Try.prog 87 #[.agg #[x.v, y.v]] w (fun e w' => e = .returned (.bool true) ∧ Hp κ w' C) := by
  have hz := h.2.zero_iff
  have hy : 0 < (y.n : Int) := by
    rcases Nat.eq_zero_or_pos y.n with g | g
    · have := hz.1 g; omega
    · omega
  refine enter (args := [.agg #[x.v, y.v]]) Try.func87 rfl rfl ?_
  intro A hF
  refine wp_seq ?_
  refine wp_region_lit ?_
  refine list_act hF rfl ?_
  refine op_box hF rfl rfl rfl rfl rfl hH ?_
  intro b A w hF hH
  refine evM [⟨b, [x.v, y.v], 65⟩] [0] tab hF hH rfl (by first | exact trivial | (simp only [All, inK_i64, inK_u64, inK_u32, inK_u8, inK_i32, max_i64, max_u64, IntKind.bits, Int.reduceToNat, Int.reduceAdd, Nat.reducePow, Int.reducePow, and_true, true_and, and_self] <;> omega)) ?_
  intro A w hF hH
  refine wpList_nil ?_
  refine wp_seq ?_
  refine wp_region_lit ?_
  refine evM [⟨b, [x.v, y.v], 65⟩] [0, 0] tab hF hH rfl (by first | exact trivial | (simp only [All, inK_i64, inK_u64, inK_u32, inK_u8, inK_i32, max_i64, max_u64, IntKind.bits, Int.reduceToNat, Int.reduceAdd, Nat.reducePow, Int.reducePow, and_true, true_and, and_self] <;> omega)) ?_
  intro A w hF hH
  refine list_act hF rfl ?_
  refine op_call hF rfl rfl rfl rfl rfl rfl isF91 (nt_check h.1 hH) ?_
  rintro e w ⟨rfl, hH⟩
  refine ⟨_, rfl, fun A hF => ?_⟩
  refine evM [⟨b, [x.v, y.v], 65⟩] [0, 0, 0] tab hF hH rfl (by first | exact trivial | (simp only [All, inK_i64, inK_u64, inK_u32, inK_u8, inK_i32, max_i64, max_u64, IntKind.bits, Int.reduceToNat, Int.reduceAdd, Nat.reducePow, Int.reducePow, and_true, true_and, and_self] <;> omega)) ?_
  intro A w hF hH
  refine list_act hF rfl ?_
  refine op_call hF rfl rfl rfl rfl rfl rfl isF91 (nt_check h.2 hH) ?_
  rintro e w ⟨rfl, hH⟩
  refine ⟨_, rfl, fun A hF => ?_⟩
  refine evM [⟨b, [x.v, y.v], 65⟩] [0, 0, 0, 0, 0, 1, 0, 0] tab hF hH rfl (by first | exact trivial | (simp only [All, inK_i64, inK_u64, inK_u32, inK_u8, inK_i32, max_i64, max_u64, IntKind.bits, Int.reduceToNat, Int.reduceAdd, Nat.reducePow, Int.reducePow, and_true, true_and, and_self] <;> omega)) ?_
  intro A w hF hH
  refine wpList_nil ?_
  refine wp_ret ?_
  repeat (first | refine then_ret ?_ | refine blk_ret ?_ | refine ng_ret ?_)
  refine ret (M := []) (hs := []) tab hF hH rfl (by first | exact trivial | (simp only [All, inK_i64, inK_u64, inK_u32, inK_u8, inK_i32, max_i64, max_u64, IntKind.bits, Int.reduceToNat, Int.reduceAdd, Nat.reducePow, Int.reducePow, and_true, true_and, and_self] <;> omega)) ?_
  exact ⟨rfl, hH.tail⟩
set_option maxRecDepth 20000 in
theorem least_calls {x y : SV} {n d : Int} (h : RatR κ x y n d) (hd : 0 < d) (h1 : n < 2 ^ 250) (h2 : d < 2 ^ 250) (hH : Hp κ w C) :
    Calls Try.prog 84 #[.agg #[x.v, y.v]] w (RatRes κ C (n / (Int.gcd n d : Int)) (d / (Int.gcd n d : Int))) := by
  have hg : 0 < (Int.gcd n d : Int) := by
    have := Int.gcd_pos_of_ne_zero_right (b := d) n (by omega)
    omega
  have hg2 : (Int.gcd n d : Int) ≤ d := Int.le_of_dvd hd (Int.gcd_dvd_right ..)
  have hg3 : (Int.gcd n d : Int) < 2 ^ 250 := Int.lt_of_le_of_lt hg2 h2
  refine enter (args := [.agg #[x.v, y.v]]) Try.func84 rfl rfl ?_
  intro A hF
  refine wp_seq ?_
  refine wp_region_lit ?_
  refine list_act hF rfl ?_
  refine op_box hF rfl rfl rfl rfl rfl hH ?_
  intro b1 A w hF hH
  refine list_act hF rfl ?_
  refine op_alloc hF tab rfl rfl rfl rfl rfl hH ?_
  intro b A w hF hH
  refine wpList_nil ?_
  refine wp_seq ?_
  refine wp_seq ?_
  refine wp_region_lit ?_
  have hH := hH.swap
  refine evM [⟨b1, [x.v, y.v], 65⟩] [0] tab hF hH rfl (by first | exact trivial | (simp only [All, inK_i64, inK_u64, inK_u32, inK_u8, inK_i32, max_i64, max_u64, IntKind.bits, Int.reduceToNat, Int.reduceAdd, Nat.reducePow, Int.reducePow, and_true, true_and, and_self] <;> omega)) ?_
  intro A w hF hH
  refine list_act hF rfl ?_
  refine op_call hF rfl rfl rfl rfl rfl rfl isF87 (rcheck_calls h hd hH) ?_
  rintro e w ⟨rfl, hH⟩
  refine ⟨_, rfl, fun A hF => ?_⟩
  refine ev0 [0] tab hF hH rfl (by first | exact trivial | (simp only [All, inK_i64, inK_u64, inK_u32, inK_u8, inK_i32, max_i64, max_u64, IntKind.bits, Int.reduceToNat, Int.reduceAdd, Nat.reducePow, Int.reducePow, and_true, true_and, and_self] <;> omega)) ?_
  intro A w hF hH
  refine wpList_nil ?_
  refine cond_f hF rfl rfl ?_
  refine wp_skip ?_
  refine wp_seq ?_
  refine wp_region_lit ?_
  refine evM [⟨b1, [x.v, y.v], 65⟩] [0, 0, 0, 0] tab hF hH rfl (by first | exact trivial | (simp only [All, inK_i64, inK_u64, inK_u32, inK_u8, inK_i32, max_i64, max_u64, IntKind.bits, Int.reduceToNat, Int.reduceAdd, Nat.reducePow, Int.reducePow, and_true, true_and, and_self] <;> omega)) ?_
  intro A w hF hH
  refine list_act hF rfl ?_
  refine op_call hF rfl rfl rfl rfl rfl rfl isF88 (nt_gcd h.1 h.2 h1 h2 hH) ?_
  rintro e w ⟨κ1, g, l1, rfl, hgg, hH⟩
  refine ⟨_, rfl, fun A hF => ?_⟩
  refine ev0 [0] tab hF hH rfl (by first | exact trivial | (simp only [All, inK_i64, inK_u64, inK_u32, inK_u8, inK_i32, max_i64, max_u64, IntKind.bits, Int.reduceToNat, Int.reduceAdd, Nat.reducePow, Int.reducePow, and_true, true_and, and_self] <;> omega)) ?_
  intro A w hF hH
  refine wpList_nil ?_
  refine wp_seq ?_
  refine wp_region_lit ?_
  refine evM [⟨b1, [x.v, y.v], 65⟩] [0, 0, 0] tab hF hH rfl (by first | exact trivial | (simp only [All, inK_i64, inK_u64, inK_u32, inK_u8, inK_i32, max_i64, max_u64, IntKind.bits, Int.reduceToNat, Int.reduceAdd, Nat.reducePow, Int.reducePow, and_true, true_and, and_self] <;> omega)) ?_
  intro A w hF hH
  refine list_act hF rfl ?_
  refine op_call hF rfl rfl rfl rfl rfl rfl isF89 (nt_quo (h.1.mono l1) hgg hg h1 hg3 hH) ?_
  rintro e w ⟨κ2, qn, r1, l2, rfl, hqn, hr1, hH⟩
  refine ⟨_, rfl, fun A hF => ?_⟩
  refine ev0 [0, 0, 0, 0, 0] tab hF hH rfl (by first | exact trivial | (simp only [All, inK_i64, inK_u64, inK_u32, inK_u8, inK_i32, max_i64, max_u64, IntKind.bits, Int.reduceToNat, Int.reduceAdd, Nat.reducePow, Int.reducePow, and_true, true_and, and_self] <;> omega)) ?_
  intro A w hF hH
  refine wpList_nil ?_
  refine wp_seq ?_
  refine wp_region_lit ?_
  refine evM [⟨b1, [x.v, y.v], 65⟩] [0, 0, 0] tab hF hH rfl (by first | exact trivial | (simp only [All, inK_i64, inK_u64, inK_u32, inK_u8, inK_i32, max_i64, max_u64, IntKind.bits, Int.reduceToNat, Int.reduceAdd, Nat.reducePow, Int.reducePow, and_true, true_and, and_self] <;> omega)) ?_
  intro A w hF hH
  refine list_act hF rfl ?_
  refine op_call hF rfl rfl rfl rfl rfl rfl isF89 (nt_quo (h.2.mono (l1.trans l2)) (hgg.mono l2) hg h2 hg3 hH) ?_
  rintro e w ⟨κ3, qd, r2, l3, rfl, hqd, hr2, hH⟩
  refine ⟨_, rfl, fun A hF => ?_⟩
  refine ev0 [0, 0, 0, 0, 0] tab hF hH rfl (by first | exact trivial | (simp only [All, inK_i64, inK_u64, inK_u32, inK_u8, inK_i32, max_i64, max_u64, IntKind.bits, Int.reduceToNat, Int.reduceAdd, Nat.reducePow, Int.reducePow, and_true, true_and, and_self] <;> omega)) ?_
  intro A w hF hH
  refine wpList_nil ?_
  refine wp_seq ?_
  refine wp_region_lit ?_
  have hH := hH.swap
  refine evM [⟨b, [.slice none 0 0, .slice none 0 0], 65⟩] [0, 0, 0, 0] tab hF hH rfl (by first | exact trivial | (simp only [All, inK_i64, inK_u64, inK_u32, inK_u8, inK_i32, max_i64, max_u64, IntKind.bits, Int.reduceToNat, Int.reduceAdd, Nat.reducePow, Int.reducePow, and_true, true_and, and_self] <;> omega)) ?_
  intro A w hF hH
  refine wpList_nil ?_
  refine wp_ret ?_
  repeat (first | refine then_ret ?_ | refine blk_ret ?_ | refine ng_ret ?_)
  refine ret (M := [⟨b, [qn.v, qd.v], 65⟩]) (hs := [0]) tab hF hH rfl (by first | exact trivial | (simp only [All, inK_i64, inK_u64, inK_u32, inK_u8, inK_i32, max_i64, max_u64, IntKind.bits, Int.reduceToNat, Int.reduceAdd, Nat.reducePow, Int.reducePow, and_true, true_and, and_self] <;> omega)) ?_
  exact ⟨κ3, qn, qd, (l1.trans l2).trans l3, rfl, ⟨hqn.mono l3, hqd⟩, hH.tail.tail⟩
def addN (n d n2 d2 : Int) : Int := n * d2 + n2 * d
set_option maxRecDepth 20000 in
theorem radd_calls {x y x2 y2 : SV} {n d n2 d2 : Int} (h1 : RatR κ x y n d) (h2 : RatR κ x2 y2 n2 d2) (g1 : n < BIG) (g2 : d < BIG) (g3 : n2 < BIG) (g4 : d2 < BIG)
    (gp1 : n * d2 < BIG) (gp2 : n2 * d < BIG) (gN : addN n d n2 d2 < 2 ^ 250) (gD : d * d2 < 2 ^ 250) (hd : 0 < d * d2) (hH : Hp κ w C) :
    Calls Try.prog 76 #[.agg #[x.v, y.v], .agg #[x2.v, y2.v]] w (RatRes κ C (addN n d n2 d2 / (Int.gcd (addN n d n2 d2) (d * d2) : Int)) (d * d2 / (Int.gcd (addN n d n2 d2) (d * d2) : Int))) := by
  refine enter (args := [.agg #[x.v, y.v], .agg #[x2.v, y2.v]]) Try.func76 rfl rfl ?_
  intro A hF
  refine wp_seq ?_
  refine wp_region_lit ?_
  refine list_act hF rfl ?_
  refine op_box hF rfl rfl rfl rfl rfl hH ?_
  intro b1 A w hF hH
  refine list_act hF rfl ?_
  refine op_box hF rfl rfl rfl rfl rfl hH ?_
  intro b2 A w hF hH
  refine list_act hF rfl ?_
  refine op_alloc hF tab rfl rfl rfl rfl rfl hH ?_
  intro b A w hF hH
  refine wpList_nil ?_
  refine wp_seq ?_
  have hH := (hH.focus 1 rfl).focus 2 rfl
  refine dr_reads (by kernel_rfl) [] [row b1 [x.v, y.v] 65, row b2 [x2.v, y2.v] 65] [18] [(0, 0), (1, 1), (2, 0), (3, 3), (5, 0), (6, 5), (7, 0), (8, 7), (11, 0), (12, 7), (13, 0), (14, 3)] 7 tab (LFok.cons (At.own (off := 0) (vs := [x.v]) 0 rfl (own1 rfl)) (LFok.cons (At.own (off := 1) (vs := [y2.v]) 1 rfl (own1 rfl)) (LFok.cons (At.own (off := 0) (vs := [x2.v]) 1 rfl (own1 rfl)) (LFok.cons (At.own (off := 1) (vs := [y.v]) 0 rfl (own1 rfl)) (LFok.nil _ _))))) (by kernel_rfl) rfl hF hH (by kernel_rfl) rfl (by first | exact trivial | (simp only [All, inK_i64, inK_u64, inK_u32, inK_u8, inK_i32, max_i64, max_u64, IntKind.bits, Int.reduceToNat, Int.reduceAdd, Nat.reducePow, Int.reducePow, and_true, true_and, and_self] <;> omega)) ?_
  intro A w hF hH
  refine dr_act (k := 4) (by kernel_rfl) rfl hF rfl ?_
  refine op_call hF rfl rfl rfl rfl rfl rfl isF56 (nt_mul h1.1 h2.2 g1 g4 hH) ?_
  rintro e w ⟨κ1, p, l1, rfl, hp, hH⟩
  refine ⟨_, rfl, fun A hF => ?_⟩
  refine ⟨(fun _ => Keeps.of hH l1), ?_⟩
  refine dr_act (k := 9) (by kernel_rfl) rfl hF rfl ?_
  refine op_call hF rfl rfl rfl rfl rfl rfl isF56 (nt_mul (h2.1.mono l1) (h1.2.mono l1) g3 g2 hH) ?_
  rintro e w ⟨κ2, q, l2, rfl, hq, hH⟩
  refine ⟨_, rfl, fun A hF => ?_⟩
  refine ⟨(fun _ => Keeps.of hH (l1.trans l2)), ?_⟩
  refine dr_act (k := 10) (by kernel_rfl) rfl hF rfl ?_
  refine op_call hF rfl rfl rfl rfl rfl rfl isF85 (nt_add (hp.mono l2) hq gp1 gp2 hH) ?_
  rintro e w ⟨κ3, s, l3, rfl, hs, hH⟩
  refine ⟨_, rfl, fun A hF => ?_⟩
  refine ⟨(fun _ => Keeps.of hH ((l1.trans l2).trans l3)), ?_⟩
  have l123 := (l1.trans l2).trans l3
  refine dr_act (k := 15) (by kernel_rfl) rfl hF rfl ?_
  refine op_call hF rfl rfl rfl rfl rfl rfl isF56 (nt_mul (h1.2.mono l123) (h2.2.mono l123) g2 g4 hH) ?_
  rintro e w ⟨κ4, t, l4, rfl, ht, hH⟩
  refine ⟨_, rfl, fun A hF => ?_⟩
  refine ⟨(fun _ => Keeps.of hH (l123.trans l4)), ?_⟩
  refine dr_more [] [row b1 [x.v, y.v] 65, row b2 [x2.v, y2.v] 65] [(16, 0)] 2 (l123.trans l4) tab (LFok.nil _ _) (by kernel_rfl) rfl hF hH (by kernel_rfl) rfl (by first | exact trivial | (simp only [All, inK_i64, inK_u64, inK_u32, inK_u8, inK_i32, max_i64, max_u64, IntKind.bits, Int.reduceToNat, Int.reduceAdd, Nat.reducePow, Int.reducePow, and_true, true_and, and_self] <;> omega)) ?_
  intro A hF
  refine dr_act (k := 17) (by kernel_rfl) rfl hF rfl ?_
  refine op_call hF rfl rfl rfl rfl rfl rfl isF84 (least_calls (n := addN n d n2 d2) ⟨hs.mono l4, ht⟩ hd gN gD hH) ?_
  rintro e w ⟨κ5, u, v, l5, rfl, huv, hH⟩
  refine ⟨_, rfl, fun A hF => ?_⟩
  refine ⟨(fun _ => Keeps.of hH ((l123.trans l4).trans l5)), ?_⟩
  have hH := hH.focus 2 rfl
  refine dr_act (k := 18) (by kernel_rfl) rfl hF rfl ?_
  refine op_ev (h := 0) (M := [⟨b, [.slice none 0 0, .slice none 0 0], 65⟩]) hF tab hH rfl (by first | exact trivial | (simp only [All, inK_i64, inK_u64, inK_u32, inK_u8, inK_i32, max_i64, max_u64, IntKind.bits, Int.reduceToNat, Int.reduceAdd, Nat.reducePow, Int.reducePow, and_true, true_and, and_self] <;> omega)) rfl ?_
  intro A w hF hH
  refine ⟨fun h => absurd h (by decide), ?_⟩
  refine dr_done (by kernel_rfl) ?_ _
  refine wp_ret ?_
  repeat (first | refine then_ret ?_ | refine blk_ret ?_ | refine ng_ret ?_)
  refine ret (M := [⟨b, [u.v, v.v], 65⟩]) (hs := [0]) tab hF hH rfl (by first | exact trivial | (simp only [All, inK_i64, inK_u64, inK_u32, inK_u8, inK_i32, max_i64, max_u64, IntKind.bits, Int.reduceToNat, Int.reduceAdd, Nat.reducePow, Int.reducePow, and_true, true_and, and_self] <;> omega)) ?_
  exact ⟨κ5, u, v, (l123.trans l4).trans l5, rfl, huv, hH.tail.tail.tail⟩
end
/-- A weight, as it lies. -/
def wenc (p : Int × Int) : List Value := [.int .i64 p.1, .int .i64 p.2]
def addW (r : Int × Int) (p : Int × Int) : Int × Int :=
  (addN r.1 r.2 p.1 p.2 / (Int.gcd (addN r.1 r.2 p.1 p.2) (r.2 * p.2) : Int), r.2 * p.2 / (Int.gcd (addN r.1 r.2 p.1 p.2) (r.2 * p.2) : Int))
def WOk (p : Int × Int) : Prop := 1 ≤ p.1 ∧ p.1 ≤ p.2 ∧ p.2 ≤ 1048576
theorem addW_spec {n d S E P L : Int} {k : Int} (hd : 0 < d) (hn : 0 ≤ n) (hk : n ≤ k * d) (hP : WOk (E, P)) (hL : P ∣ L) (hv : n * L = d * S) :
    0 < (addW (n, d) (E, P)).2 ∧ 0 ≤ (addW (n, d) (E, P)).1 ∧ (addW (n, d) (E, P)).1 ≤ (k + 1) * (addW (n, d) (E, P)).2 ∧ (addW (n, d) (E, P)).2 ≤ d * P ∧ (addW (n, d) (E, P)).1 * L = (addW (n, d) (E, P)).2 * (S + E * (L / P)) := by
  obtain ⟨hE, hEP, _⟩ := hP
  simp only at hE hEP
  obtain ⟨M, rfl⟩ := hL
  have hPM : P * M / P = M := Int.mul_ediv_cancel_left _ (by omega)
  have hD : 0 < d * P := Int.mul_pos hd (by omega)
  have hg : 0 < (Int.gcd (addN n d E P) (d * P) : Int) := by
    have := Int.gcd_pos_of_ne_zero_right (b := d * P) (addN n d E P) (by omega)
    omega
  have hgN := Int.gcd_dvd_left (addN n d E P) (d * P)
  have hgD := Int.gcd_dvd_right (addN n d E P) (d * P)
  have hN0 : 0 ≤ addN n d E P := Int.add_nonneg (Int.mul_nonneg hn (by omega)) (Int.mul_nonneg (by omega) (by omega))
  have hNk : addN n d E P ≤ (k + 1) * (d * P) := by
    have a1 : n * P ≤ k * d * P := Int.mul_le_mul_of_nonneg_right hk (by omega)
    have a2 : E * d ≤ P * d := Int.mul_le_mul_of_nonneg_right hEP (by omega)
    unfold addN
    rw [Int.add_mul, Int.one_mul, ← Int.mul_assoc, Int.mul_comm d P]
    omega
  have hval : addN n d E P * (P * M) = (d * P) * (S + E * M) := by
    unfold addN
    have : (n * P + E * d) * (P * M) = P * (n * (P * M)) + E * d * (P * M) := by
      rw [Int.add_mul, Int.mul_comm n P, Int.mul_assoc P n]
    rw [this, hv]
    simp only [Int.mul_add]
    congr 1
    · rw [Int.mul_comm d P, Int.mul_assoc]
    · rw [Int.mul_comm E d, Int.mul_assoc, Int.mul_assoc]
      congr 1
      rw [← Int.mul_assoc, Int.mul_comm E P, Int.mul_assoc]
  simp only [addW, hPM]
  generalize addN n d E P = N at *
  generalize (Int.gcd N (d * P) : Int) = g at *
  generalize d * P = D at *
  obtain ⟨N', rfl⟩ := hgN
  obtain ⟨D', rfl⟩ := hgD
  have e1 : g * N' / g = N' := Int.mul_ediv_cancel_left _ (by omega)
  have e2 : g * D' / g = D' := Int.mul_ediv_cancel_left _ (by omega)
  rw [e1, e2]
  have hD' : 0 < D' := by
    rcases Int.lt_or_le 0 D' with h | h
    · exact h
    · have := Int.mul_le_mul_of_nonneg_left h (Int.le_of_lt hg); omega
  refine ⟨hD', ?_, ?_, ?_, ?_⟩
  · rcases Int.lt_or_le N' 0 with h | h
    · have := Int.mul_lt_mul_of_pos_left h hg; omega
    · exact h
  · refine Int.le_of_mul_le_mul_left (a := g) ?_ hg
    rw [← Int.mul_assoc, Int.mul_comm g (k + 1), Int.mul_assoc]; exact hNk
  · have := Int.mul_le_mul_of_nonneg_right (show 1 ≤ g from hg) (Int.le_of_lt hD')
    omega
  · refine Int.eq_of_mul_eq_mul_left (a := g) (by omega) ?_
    rw [← Int.mul_assoc g N', ← Int.mul_assoc g D']; exact hval

theorem lt_BIG {x : Int} (h : x < 2 ^ 250) : x < BIG := Int.lt_trans h (by decide)
theorem pow20 {i : Nat} (h : i ≤ 7) : (1048576 : Int) ^ i ≤ 2 ^ 140 := by
  have h1 := Nat.pow_le_pow_right (n := 1048576) (by decide) h
  have h2 : (1048576 : Nat) ^ 7 = 2 ^ 140 := by decide
  rw [h2] at h1
  rw [show (1048576 : Int) = ((1048576 : Nat) : Int) from rfl, ← Int.natCast_pow]
  omega
def sumW (r : Int × Int) : List (Int × Int) → Int × Int
  | [] => r
  | p :: ps => sumW (addW r p) ps
set_option maxRecDepth 20000 in
theorem sum_calls {κ : K} {w : World} {C : List HP} {v : Value} {ws : List (Int × Int)} (hv : Rd κ [] 2 wenc v ws) (hw : ∀ p ∈ ws, WOk p) (hlen : ws.length ≤ 8) (hH : Hp κ w C) : Calls Try.prog 57 #[v] w (RatRes κ C (sumW (0, 1) ws).1 (sumW (0, 1) ws).2) := by
  obtain ⟨A0, cap, rfl, hcap⟩ := hv.form
  refine enter (args := [.slice A0 ws.length cap]) Try.func57 rfl rfl ?_
  intro A hF
  refine wp_seq ?_
  refine wp_region_lit ?_
  refine list_act hF rfl ?_
  refine op_alloc hF tab rfl rfl rfl rfl rfl hH ?_
  intro b A w hF hH
  refine wpList_nil ?_
  refine wp_seq ?_
  refine wp_region_lit ?_
  refine list_act hF rfl ?_
  refine op_call hF rfl rfl rfl rfl rfl rfl isF29 (whole_calls (n := 0) (by omega) (by omega) hH) ?_
  rintro e w ⟨κ1, x, y, l1, rfl, hxy, hH⟩
  refine ⟨_, rfl, fun A hF => ?_⟩
  refine list_act hF rfl ?_
  refine op_alloc hF tab rfl rfl rfl rfl rfl hH ?_
  intro b1 A w hF hH
  refine evM [⟨b1, [.slice none 0 0, .slice none 0 0], 65⟩] [0] tab hF hH rfl (by first | exact trivial | (simp only [All, inK_i64, inK_u64, inK_u32, inK_u8, inK_i32, max_i64, max_u64, IntKind.bits, Int.reduceToNat, Int.reduceAdd, Nat.reducePow, Int.reducePow, and_true, true_and, and_self] <;> omega)) ?_
  intro A w hF hH
  refine wpList_nil ?_
  refine wp_seq ?_
  refine wp_seq ?_
  refine wp_region_lit ?_
  refine ev0 [0, 0, 0] tab hF hH rfl (by first | exact trivial | (simp only [All, inK_i64, inK_u64, inK_u32, inK_u8, inK_i32, max_i64, max_u64, IntKind.bits, Int.reduceToNat, Int.reduceAdd, Nat.reducePow, Int.reducePow, and_true, true_and, and_self] <;> omega)) ?_
  intro A w hF hH
  refine wpList_nil ?_
  refine wp_block ?_
  refine loop_j (fun (i : Nat) A w => i ≤ ws.length ∧ ∃ κ2, ∃ x y : SV, ∃ n d, κ.le κ2 ∧ RatR κ2 x y n d ∧ sumW (n, d) (ws.drop i) = sumW (0, 1) ws ∧ 0 < d ∧ 0 ≤ n ∧ n ≤ i * d ∧ d ≤ 1048576 ^ i ∧ Fr 19 A [(9, .int .i64 i), (8, .int .i64 ws.length), (7, .slice A0 ws.length cap), (3, .pointer (some ⟨b1, 0, none⟩)), (2, .pointer (some ⟨b, 0, none⟩))] ∧ Hp κ2 w (row b1 [x.v, y.v] 65 :: row b [.slice none 0 0, .slice none 0 0] 65 :: C)) (fun i => ws.length - i) 0 ⟨Nat.zero_le _, κ1, x, y, 0, 1, l1, hxy, rfl, by omega, by omega, by omega, by simp, Fr.to hF ⟨rfl, rfl, rfl, rfl, rfl, trivial⟩, hH⟩ ?_
  rintro i A w ⟨hi, κ2, x, y, n, d, l2, hxy, hsum, hd, hn, hnd, hdk, hF, hH⟩
  refine wp_seq ?_
  refine wp_region_lit ?_
  by_cases hlt : i < ws.length
  · refine ev0 [1] tab hF hH rfl (by first | exact trivial | (simp only [All, inK_i64, inK_u64, inK_u32, inK_u8, inK_i32, max_i64, max_u64, IntKind.bits, Int.reduceToNat, Int.reduceAdd, Nat.reducePow, Int.reducePow, and_true, true_and, and_self] <;> omega)) ?_
    intro A w hF hH
    refine wpList_nil ?_
    refine wp_seq ?_
    refine cond_t hF rfl rfl ?_
    refine wp_skip ?_
    refine wp_seq ?_
    refine wp_block ?_
    refine wp_seq ?_
    refine wp_region_lit ?_
    obtain ⟨b0, off0, rfl⟩ := hv.addr (by omega)
    have hwi := hw ws[i] (List.getElem_mem hlt)
    refine evF [] [] (LFok.cons ((hv.mono l2).at_ (fun _ _ => rfl) i hlt) (LFok.nil _ _)) [0, 1] tab hF hH rfl (by first | exact trivial | (simp only [All, inK_i64, inK_u64, inK_u32, inK_u8, inK_i32, max_i64, max_u64, IntKind.bits, Int.reduceToNat, Int.reduceAdd, Nat.reducePow, Int.reducePow, and_true, true_and, and_self] <;> omega)) ?_
    intro A w hF hH
    rw [List.drop_eq_getElem_cons hlt] at hsum
    simp only [sumW] at hsum
    generalize ws[i] = p at *
    obtain ⟨E, P⟩ := p
    refine list_act hF rfl ?_
    refine op_alloc hF tab rfl rfl rfl rfl rfl hH ?_
    intro b5 A w hF hH
    refine evM [⟨b5, [.int .i64 0, .int .i64 0], 28⟩] [0] tab hF hH rfl (by first | exact trivial | (simp only [All, inK_i64, inK_u64, inK_u32, inK_u8, inK_i32, max_i64, max_u64, IntKind.bits, Int.reduceToNat, Int.reduceAdd, Nat.reducePow, Int.reducePow, and_true, true_and, and_self] <;> omega)) ?_
    intro A w hF hH
    refine wpList_nil ?_
    have hd1 : d ≤ 2 ^ 140 := Int.le_trans hdk (pow20 (by omega))
    have hn1 : n ≤ 7 * d := Int.le_trans hnd (Int.mul_le_mul_of_nonneg_right (by omega) (by omega))
    obtain ⟨hE1, hE2, hP2⟩ := hwi
    simp only at hE1 hE2 hP2
    have hnP : n * P ≤ 2 ^ 143 * 2 ^ 20 := Int.mul_le_mul (by omega) (by omega) (by omega) (by omega)
    have hEd : E * d ≤ 2 ^ 20 * 2 ^ 140 := Int.mul_le_mul (by omega) (by omega) (by omega) (by omega)
    have hdP : d * P ≤ 2 ^ 140 * 2 ^ 20 := Int.mul_le_mul (by omega) (by omega) (by omega) (by omega)
    have hdP0 : 0 < d * P := Int.mul_pos hd (by omega)
    refine dr_reads (by kernel_rfl) [] [row b5 [.int .i64 E, .int .i64 P] 28, row b1 [x.v, y.v] 65] [4] [(0, 1), (1, 3)] 3 tab (LFok.cons (At.own (off := 0) (vs := [x.v, y.v]) 1 rfl (fun j u h => by simpa using h)) (LFok.cons (At.own (off := 0) (vs := [.int .i64 E, .int .i64 P]) 0 rfl (fun j u h => by simpa using h)) (LFok.nil _ _))) (by kernel_rfl) rfl hF hH (by kernel_rfl) rfl (by first | exact trivial | (simp only [All, inK_i64, inK_u64, inK_u32, inK_u8, inK_i32, max_i64, max_u64, IntKind.bits, Int.reduceToNat, Int.reduceAdd, Nat.reducePow, Int.reducePow, and_true, true_and, and_self] <;> omega)) ?_
    intro A w hF hH
    refine dr_act (k := 2) (by kernel_rfl) rfl hF rfl ?_
    refine op_call hF rfl rfl rfl rfl rfl rfl isF77 (rof_calls (E := E) (P := P) (by omega) (by omega) (by omega) (by omega) hH) ?_
    rintro e w ⟨κ3, x3, y3, l3, rfl, hx3, hH⟩
    refine ⟨_, rfl, fun A hF => ?_⟩
    refine ⟨(fun _ => Keeps.of hH l3), ?_⟩
    refine dr_act (k := 3) (by kernel_rfl) rfl hF rfl ?_
    refine op_call hF rfl rfl rfl rfl rfl rfl isF76 (radd_calls (hxy.mono l3) hx3 (lt_BIG (by omega)) (lt_BIG (by omega)) (lt_BIG (by omega)) (lt_BIG (by omega)) (lt_BIG (by omega)) (lt_BIG (by omega)) (by unfold addN; omega) (by omega) hdP0 hH) ?_
    rintro e w ⟨κ4, x4, y4, l4, rfl, hx4, hH⟩
    refine ⟨_, rfl, fun A hF => ?_⟩
    refine ⟨(fun _ => Keeps.of hH (l3.trans l4)), ?_⟩
    have hH := hH.swap
    refine dr_act (k := 4) (by kernel_rfl) rfl hF rfl ?_
    refine op_ev (h := 0) (M := [⟨b1, [x.v, y.v], 65⟩]) hF tab hH rfl (by first | exact trivial | (simp only [All, inK_i64, inK_u64, inK_u32, inK_u8, inK_i32, max_i64, max_u64, IntKind.bits, Int.reduceToNat, Int.reduceAdd, Nat.reducePow, Int.reducePow, and_true, true_and, and_self] <;> omega)) rfl ?_
    intro A w hF hH
    refine ⟨fun h => absurd h (by decide), ?_⟩
    refine dr_done (by kernel_rfl) ?_ _
    refine wp_region_lit ?_
    refine ev0 [0, 0] tab hF hH rfl (by first | exact trivial | (simp only [All, inK_i64, inK_u64, inK_u32, inK_u8, inK_i32, max_i64, max_u64, IntKind.bits, Int.reduceToNat, Int.reduceAdd, Nat.reducePow, Int.reducePow, and_true, true_and, and_self] <;> omega)) ?_
    intro A w hF hH
    refine wpList_nil ?_
    obtain ⟨s1, s2, s3, s4, _⟩ := addW_spec (L := 0) (S := 0) (k := i) hd hn hnd ⟨hE1, hE2, hP2⟩ ⟨0, by simp⟩ (by simp)
    refine ⟨i + 1, ⟨by omega, κ4, x4, y4, (addW (n, d) (E, P)).1, (addW (n, d) (E, P)).2, (l2.trans l3).trans l4, hx4, hsum, s1, s2, s3, ?_, Fr.to hF ⟨rfl, rfl, rfl, rfl, rfl, trivial⟩, hH.focus 1 rfl |>.tail.swap |> fun h => h.focus 1 rfl⟩, by omega⟩
    refine Int.le_trans s4 ?_
    rw [Int.pow_succ]
    exact Int.mul_le_mul hdk (by omega) (by omega) (Int.le_trans (by omega) hdk)
  · skip
    refine ev0 [2] tab hF hH rfl (by first | exact trivial | (simp only [All, inK_i64, inK_u64, inK_u32, inK_u8, inK_i32, max_i64, max_u64, IntKind.bits, Int.reduceToNat, Int.reduceAdd, Nat.reducePow, Int.reducePow, and_true, true_and, and_self] <;> omega)) ?_
    intro A w hF hH
    refine wpList_nil ?_
    refine wp_seq ?_
    refine cond_f hF rfl rfl ?_
    refine wp_exit ?_
    repeat (first | refine then_exit ?_ | refine ng_exit ?_ | refine blk_exit ?_ | refine blk_exit_ne rfl ?_)
    refine wp_seq ?_
    refine wp_region_lit ?_
    refine evM [⟨b1, [x.v, y.v], 65⟩, ⟨b, [.slice none 0 0, .slice none 0 0], 65⟩] [0, 1] tab hF hH rfl (by first | exact trivial | (simp only [All, inK_i64, inK_u64, inK_u32, inK_u8, inK_i32, max_i64, max_u64, IntKind.bits, Int.reduceToNat, Int.reduceAdd, Nat.reducePow, Int.reducePow, and_true, true_and, and_self] <;> omega)) ?_
    intro A w hF hH
    refine wpList_nil ?_
    refine wp_ret ?_
    repeat (first | refine then_ret ?_ | refine blk_ret ?_ | refine ng_ret ?_)
    rw [List.drop_eq_nil_of_le (by omega)] at hsum
    simp only [sumW] at hsum
    have hH := hH.swap
    refine ret (M := [⟨b, [x.v, y.v], 65⟩]) (hs := [0]) tab hF hH rfl (by first | exact trivial | (simp only [All, inK_i64, inK_u64, inK_u32, inK_u8, inK_i32, max_i64, max_u64, IntKind.bits, Int.reduceToNat, Int.reduceAdd, Nat.reducePow, Int.reducePow, and_true, true_and, and_self] <;> omega)) ?_
    rw [← hsum]
    exact ⟨κ2, x, y, l2, rfl, hxy, hH.tail.tail⟩
def sumS (L : Int) : List (Int × Int) → Int
  | [] => 0
  | p :: ps => p.1 * (L / p.2) + sumS L ps
theorem sumW_spec (L : Int) : ∀ (ws : List (Int × Int)) (n d S k : Int), 0 < d → 0 ≤ n → n ≤ k * d → (∀ p ∈ ws, WOk p ∧ p.2 ∣ L) → n * L = d * S →
    0 < (sumW (n, d) ws).2 ∧ 0 ≤ (sumW (n, d) ws).1 ∧ (sumW (n, d) ws).1 * L = (sumW (n, d) ws).2 * (S + sumS L ws) ∧ (sumW (n, d) ws).1 ≤ (k + ws.length) * (sumW (n, d) ws).2 ∧ (sumW (n, d) ws).2 ≤ d * 1048576 ^ ws.length := by
  intro ws
  induction ws with
  | nil => intro n d S k hd hn hk _ hv; simpa [sumW, sumS] using ⟨hd, hn, hv, hk⟩
  | cons p ws ih =>
    intro n d S k hd hn hk hw hv
    obtain ⟨E, P⟩ := p
    obtain ⟨hW, hL⟩ := hw (E, P) (List.mem_cons_self ..)
    obtain ⟨s1, s2, s3, s4, s5⟩ := addW_spec hd hn hk hW hL hv
    obtain ⟨t1, t2, t3, t4, t5⟩ := ih _ _ _ _ s1 s2 s3 (fun q hq => hw q (List.mem_cons_of_mem _ hq)) s5
    simp only [sumW, sumS]
    refine ⟨t1, t2, by rw [t3]; congr 1; omega, by rw [List.length_cons]; rw [show k + ((ws.length + 1 : Nat) : Int) = k + 1 + ws.length from by omega]; exact t4, Int.le_trans t5 ?_⟩
    rw [List.length_cons, Int.pow_succ, Int.mul_comm (1048576 ^ ws.length), ← Int.mul_assoc]
    refine Int.mul_le_mul_of_nonneg_right ?_ (Int.le_of_lt (Int.pow_pos (by omega)))
    exact Int.le_trans s4 (Int.mul_le_mul_of_nonneg_left hW.2.2 (by omega))
end Go.Proofs.Try
