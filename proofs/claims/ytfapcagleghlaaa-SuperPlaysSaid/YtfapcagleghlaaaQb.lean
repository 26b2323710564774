/- Contracts of the ratios' functions: ratios. -/
import Derived.Test.YtfapcagleghlaaaQa
set_option linter.all false
namespace Go.Proofs.Try
open Go Go.Sep

/-- A ratio: its number and what it is divided by. -/
def RatR (κ : K) (x y : SV) (n d : Int) : Prop := Nt κ x.v n ∧ Nt κ y.v d
theorem RatR.mono {κ κ' : K} {x y : SV} {n d : Int} (h : RatR κ x y n d) (l : κ.le κ') : RatR κ' x y n d := ⟨h.1.mono l, h.2.mono l⟩
abbrev RatRes (κ : K) (C : List HP) (n d : Int) (e : Ending) (w' : World) : Prop := ∃ κ', ∃ x y : SV, κ.le κ' ∧ e = .returned (.agg #[x.v, y.v]) ∧ RatR κ' x y n d ∧ Hp κ' w' C
theorem own1 {v : Value} {cs : List Value} {off : Nat} (h : cs[off]? = some v) : ∀ j u, [v][j]? = some u → cs[off + j]? = some u := by
  intro j u hu
  cases j with
  | zero => simp only [List.getElem?_cons_zero, Option.some.injEq] at hu; rw [← hu]; exact h
  | succ j => simp at hu
section
variable {κ : K} {w : World} {C : List HP}
set_option maxRecDepth 20000 in
theorem whole_calls {n : Int} (h0 : 0 ≤ n) (h1 : n ≤ 18446744073709551615) (hH : Hp κ w C) : Calls Try.prog 29 #[.int .u64 n] w (RatRes κ C n 1) := by
  refine enter (args := [.int .u64 n]) Try.func29 rfl rfl ?_
  intro A hF
  refine wp_seq ?_
  refine wp_region_lit ?_
  refine list_act hF rfl ?_
  refine op_alloc hF tab rfl rfl rfl rfl rfl hH ?_
  intro b A w hF hH
  refine wpList_nil ?_
  refine wp_seq ?_
  refine wp_region_lit ?_
  have hH := hH
  refine ev0 [0] tab hF hH rfl (by first | exact trivial | (simp only [All, inK_i64, inK_u64, inK_u32, inK_u8, inK_i32, max_i64, max_u64, IntKind.bits, Int.reduceToNat, Int.reduceAdd, Nat.reducePow, Int.reducePow, and_true, true_and, and_self] <;> omega)) ?_
  intro A w hF hH
  refine list_act hF rfl ?_
  refine op_call hF rfl rfl rfl rfl rfl rfl isF59 (nt_of h0 h1 hH) ?_
  rintro e w ⟨κ1, x, l1, rfl, hx, hH⟩
  refine ⟨_, rfl, fun A hF => ?_⟩
  refine list_act hF rfl ?_
  refine op_call hF rfl rfl rfl rfl rfl rfl isF59 (nt_of (n := 1) (by omega) (by omega) hH) ?_
  rintro e w ⟨κ2, y, l2, rfl, hy, hH⟩
  refine ⟨_, rfl, fun A hF => ?_⟩
  refine evM [⟨b, [.slice none 0 0, .slice none 0 0], 65⟩] [0, 0] tab hF hH rfl (by first | exact trivial | (simp only [All, inK_i64, inK_u64, inK_u32, inK_u8, inK_i32, max_i64, max_u64, IntKind.bits, Int.reduceToNat, Int.reduceAdd, Nat.reducePow, Int.reducePow, and_true, true_and, and_self] <;> omega)) ?_
  intro A w hF hH
  refine wpList_nil ?_
  refine wp_ret ?_
  repeat (first | refine then_ret ?_ | refine blk_ret ?_ | refine ng_ret ?_)
  refine ret (M := [⟨b, [x.v, y.v], 65⟩]) (hs := [0]) tab hF hH rfl (by first | exact trivial | (simp only [All, inK_i64, inK_u64, inK_u32, inK_u8, inK_i32, max_i64, max_u64, IntKind.bits, Int.reduceToNat, Int.reduceAdd, Nat.reducePow, Int.reducePow, and_true, true_and, and_self] <;> omega)) ?_
  exact ⟨κ2, x, y, l1.trans l2, rfl, ⟨hx.mono l2, hy⟩, hH.tail⟩
set_option maxRecDepth 20000 in
theorem rof_calls {E P : Int} (h0 : 0 ≤ E) (h1 : 1 ≤ P) (h2 : E ≤ 9223372036854775807) (h3 : P ≤ 9223372036854775807) (hH : Hp κ w C) : Calls Try.prog 77 #[.agg #[.int .i64 E, .int .i64 P]] w (RatRes κ C E P) := by
  have e1 : max E 0 = E := by omega
  have e2 : max P 1 = P := by omega
  refine enter (args := [.agg #[.int .i64 E, .int .i64 P]]) Try.func77 rfl rfl ?_
  intro A hF
  refine wp_seq ?_
  refine wp_region_lit ?_
  refine list_act hF rfl ?_
  refine op_box hF rfl rfl rfl rfl rfl hH ?_
  intro b0 A w hF hH
  refine list_act hF rfl ?_
  refine op_alloc hF tab rfl rfl rfl rfl rfl hH ?_
  intro b A w hF hH
  refine wpList_nil ?_
  refine wp_seq ?_
  have hH := hH.swap
  refine dr_reads (by kernel_rfl) [] [row b0 [.int .i64 E, .int .i64 P] 28] [11] [(0, 0), (1, 1), (2, 0), (3, 0), (5, 0), (6, 3), (7, 0), (8, 0)] 4 tab (LFok.cons (At.own (off := 0) (vs := [.int .i64 E]) 0 rfl (own1 rfl)) (LFok.cons (At.own (off := 1) (vs := [.int .i64 P]) 0 rfl (own1 rfl)) (LFok.nil _ _))) (by kernel_rfl) rfl hF hH (by kernel_rfl) rfl (by first | exact trivial | (simp only [All, inK_i64, inK_u64, inK_u32, inK_u8, inK_i32, max_i64, max_u64, IntKind.bits, Int.reduceToNat, Int.reduceAdd, Nat.reducePow, Int.reducePow, and_true, true_and, and_self] <;> omega)) ?_
  intro A w hF hH
  simp only [e1, e2] at hF
  refine dr_act (k := 4) (by kernel_rfl) rfl hF rfl ?_
  refine op_call hF rfl rfl rfl rfl rfl rfl isF59 (nt_of (n := E) h0 (by omega) hH) ?_
  rintro e w ⟨κ1, x, l1, rfl, hx, hH⟩
  refine ⟨_, rfl, fun A hF => ?_⟩
  refine ⟨(fun _ => Keeps.of hH l1), ?_⟩
  refine dr_act (k := 9) (by kernel_rfl) rfl hF rfl ?_
  refine op_call hF rfl rfl rfl rfl rfl rfl isF59 (nt_of (n := P) (by omega) (by omega) hH) ?_
  rintro e w ⟨κ2, y, l2, rfl, hy, hH⟩
  refine ⟨_, rfl, fun A hF => ?_⟩
  refine ⟨(fun _ => Keeps.of hH (l1.trans l2)), ?_⟩
  refine dr_more [] [row b0 [.int .i64 E, .int .i64 P] 28] [(10, 0)] 1 (l1.trans l2) tab (LFok.nil _ _) (by kernel_rfl) rfl hF hH (by kernel_rfl) rfl (by first | exact trivial | (simp only [All, inK_i64, inK_u64, inK_u32, inK_u8, inK_i32, max_i64, max_u64, IntKind.bits, Int.reduceToNat, Int.reduceAdd, Nat.reducePow, Int.reducePow, and_true, true_and, and_self] <;> omega)) ?_
  intro A hF
  have hH := hH.swap
  refine dr_act (k := 11) (by kernel_rfl) rfl hF rfl ?_
  refine op_ev (h := 0) (M := [⟨b, [.slice none 0 0, .slice none 0 0], 65⟩]) hF tab hH rfl (by first | exact trivial | (simp only [All, inK_i64, inK_u64, inK_u32, inK_u8, inK_i32, max_i64, max_u64, IntKind.bits, Int.reduceToNat, Int.reduceAdd, Nat.reducePow, Int.reducePow, and_true, true_and, and_self] <;> omega)) rfl ?_
  intro A w hF hH
  refine ⟨fun h => absurd h (by decide), ?_⟩
  refine dr_done (by kernel_rfl) ?_ _
  refine wp_ret ?_
  repeat (first | refine then_ret ?_ | refine blk_ret ?_ | refine ng_ret ?_)
  refine ret (M := [⟨b, [x.v, y.v], 65⟩]) (hs := [0]) tab hF hH rfl (by first | exact trivial | (simp only [All, inK_i64, inK_u64, inK_u32, inK_u8, inK_i32, max_i64, max_u64, IntKind.bits, Int.reduceToNat, Int.reduceAdd, Nat.reducePow, Int.reducePow, and_true, true_and, and_self] <;> omega)) ?_
  exact ⟨κ2, x, y, l1.trans l2, rfl, ⟨hx.mono l2, hy⟩, hH.tail.tail⟩
set_option maxRecDepth 20000 in
theorem rcmp_calls {x y x2 y2 : SV} {n d n2 d2 : Int} (h1 : RatR κ x y n d) (h2 : RatR κ x2 y2 n2 d2) (g1 : n < BIG) (g2 : d < BIG) (g3 : n2 < BIG) (g4 : d2 < BIG) (hH : Hp κ w C) :
    Calls Try.prog 27 #[.agg #[x.v, y.v], .agg #[x2.v, y2.v]] w (fun e w' => e = .returned (.int .i64 (cmpI (n * d2) (n2 * d))) ∧ Hp κ w' C) := by
  refine enter (args := [.agg #[x.v, y.v], .agg #[x2.v, y2.v]]) Try.func27 rfl rfl ?_
  intro A hF
  refine wp_seq ?_
  refine wp_region_lit ?_
  refine list_act hF rfl ?_
  refine op_box hF rfl rfl rfl rfl rfl hH ?_
  intro b1 A w hF hH
  refine list_act hF rfl ?_
  refine op_box hF rfl rfl rfl rfl rfl hH ?_
  intro b2 A w hF hH
  refine ev0 [0] tab hF hH rfl (by first | exact trivial | (simp only [All, inK_i64, inK_u64, inK_u32, inK_u8, inK_i32, max_i64, max_u64, IntKind.bits, Int.reduceToNat, Int.reduceAdd, Nat.reducePow, Int.reducePow, and_true, true_and, and_self] <;> omega)) ?_
  intro A w hF hH
  refine wpList_nil ?_
  refine wp_seq ?_
  have hH := hH.swap
  refine dr_reads (by kernel_rfl) [] [row b1 [x.v, y.v] 65, row b2 [x2.v, y2.v] 65] [] [(0, 0), (1, 1), (2, 0), (3, 3), (5, 0), (6, 5), (7, 0), (8, 7)] 4 tab (LFok.cons (At.own (off := 0) (vs := [x.v]) 0 rfl (own1 rfl)) (LFok.cons (At.own (off := 1) (vs := [y2.v]) 1 rfl (own1 rfl)) (LFok.cons (At.own (off := 0) (vs := [x2.v]) 1 rfl (own1 rfl)) (LFok.cons (At.own (off := 1) (vs := [y.v]) 0 rfl (own1 rfl)) (LFok.nil _ _))))) (by kernel_rfl) rfl hF hH (by kernel_rfl) rfl (by first | exact trivial | (simp only [All, inK_i64, inK_u64, inK_u32, inK_u8, inK_i32, max_i64, max_u64, IntKind.bits, Int.reduceToNat, Int.reduceAdd, Nat.reducePow, Int.reducePow, and_true, true_and, and_self] <;> omega)) ?_
  intro A w hF hH
  refine dr_act (k := 4) (by kernel_rfl) rfl hF rfl ?_
  refine op_call hF rfl rfl rfl rfl rfl rfl isF56 (nt_mul h1.1 h2.2 g1 g4 hH) ?_
  rintro e w ⟨κ1, p, l1, rfl, hp, hH⟩
  refine ⟨_, rfl, fun A hF => ?_⟩
  refine ⟨(fun _ => Keeps.of hH l1), ?_⟩
  refine dr_act (k := 9) (by kernel_rfl) rfl hF rfl ?_
  refine op_call hF rfl rfl rfl rfl rfl rfl isF56 (nt_mul (h2.1.mono l1) (h1.2.mono l1) g3 g2 hH) ?_
  rintro e w ⟨κ2, q, l2, rfl, hq, hH⟩
  refine ⟨_, rfl, fun A hF => ?_⟩
  refine ⟨(fun _ => Keeps.of hH (l1.trans l2)), ?_⟩
  refine dr_act (k := 10) (by kernel_rfl) rfl hF rfl ?_
  refine op_call hF rfl rfl rfl rfl rfl rfl isF55 (nt_cmp (hp.mono l2) hq hH) ?_
  rintro e w ⟨rfl, hH⟩
  refine ⟨_, rfl, fun A hF => ?_⟩
  refine ⟨(fun _ => Keeps.of hH (l1.trans l2)), ?_⟩
  refine dr_more [] [row b1 [x.v, y.v] 65, row b2 [x2.v, y2.v] 65] [(11, 0)] 0 (l1.trans l2) tab (LFok.nil _ _) (by kernel_rfl) rfl hF hH (by kernel_rfl) rfl (by first | exact trivial | (simp only [All, inK_i64, inK_u64, inK_u32, inK_u8, inK_i32, max_i64, max_u64, IntKind.bits, Int.reduceToNat, Int.reduceAdd, Nat.reducePow, Int.reducePow, and_true, true_and, and_self] <;> omega)) ?_
  intro A hF
  refine dr_done (by kernel_rfl) ?_ _
  refine wp_ret ?_
  repeat (first | refine then_ret ?_ | refine blk_ret ?_ | refine ng_ret ?_)
  refine ret (M := []) (hs := []) tab hF hH rfl (by first | exact trivial | (simp only [All, inK_i64, inK_u64, inK_u32, inK_u8, inK_i32, max_i64, max_u64, IntKind.bits, Int.reduceToNat, Int.reduceAdd, Nat.reducePow, Int.reducePow, and_true, true_and, and_self] <;> omega)) ?_
  exact ⟨rfl, (hH.lower (l1.trans l2)).tail.tail⟩
end
end Go.Proofs.Try
