/- Contracts of the naturals' functions. -/
import Derived.Test.YtfapcagleghlaaaM
set_option linter.all false
namespace Go.Proofs.Try
open Go Go.Sep

theorem wrap_u32 (n : Int) : IntKind.wrap .u32 n = n % 4294967296 := by
  simp [IntKind.wrap, IntKind.signed, IntKind.bits]
theorem wrap_u64 (n : Int) : IntKind.wrap .u64 n = n % 18446744073709551616 := by
  simp [IntKind.wrap, IntKind.signed, IntKind.bits]
def u32 (n : Int) : List Value := [.int .u32 n]
theorem u32_map (ds : List Int) : ds.flatMap u32 = ds.map (Value.int .u32) := by
  induction ds with
  | nil => rfl
  | cons d ds ih => simp [u32, ih]
theorem zeros_row (m : Nat) (v : Value) : (List.replicate m [v]).flatten = List.replicate m v := by
  induction m with
  | zero => rfl
  | succ m ih => rw [List.replicate_succ, List.flatten_cons, ih]; rfl
theorem set_map (ds : List Int) (k : Nat) (x : Int) : putL (ds.map (Value.int .u32)) k (cellsL (.int .u32 x)) = (ds.set k x).map (Value.int .u32) := by
  simp [cellsL, putL, setL_eq, List.map_set]
section
variable {κ : K} {w : World} {C : List HP} {p q r : HP}
theorem rot3 (h : Hp κ w (p :: q :: r :: C)) : Hp κ w (r :: p :: q :: C) := h.focus 2 rfl
theorem rot3' (h : Hp κ w (r :: p :: q :: C)) : Hp κ w (p :: q :: r :: C) := (h.focus 1 rfl).focus 2 rfl |> fun h => (h.focus 1 rfl).focus 2 rfl |> fun h => h.focus 0 rfl |> fun h => (h.focus 1 rfl).focus 2 rfl |> fun h => (h.focus 1 rfl)
end
/-- A natural number, by its limbs. -/
structure NatR (κ : K) (v : Value) (n : Int) (ds : List Int) : Prop where
  rd : Rd κ [] 1 u32 v ds
  limbs : Limbs ds
  canon : Canon ds
  val : val ds = n
  len : ds.length ≤ 1073741824
theorem NatR.mono {κ κ' : K} {v : Value} {n : Int} {ds : List Int} (h : NatR κ v n ds) (l : κ.le κ') : NatR κ' v n ds := ⟨h.rd.mono l, h.limbs, h.canon, h.val, h.len⟩

set_option maxRecDepth 20000 in
theorem at_calls (κ : K) (v : Value) (ds : List Int) (hv : Rd κ [] 1 u32 v ds) (hl : Limbs ds) (hlen : ds.length ≤ 9223372036854775807) (i : Nat) (w : World) (C : List HP) (hH : Hp κ w C) :
    Calls Try.prog 74 #[v, .int .i64 i] w (fun e w' => e = .returned (.int .u64 (hd (ds.drop i))) ∧ Hp κ w' C) := by
  obtain ⟨A0, cap, rfl, hcap⟩ := hv.form
  refine enter (args := [.slice A0 ds.length cap, .int .i64 i]) Try.func74 rfl rfl ?_
  intro A hF
  refine wp_seq ?_
  refine wp_region_lit ?_
  refine ev0 [0] tab hF hH rfl (by first | exact trivial | (simp only [All, inK_i64, inK_u64, inK_u32, inK_u8, inK_i32, max_i64, max_u64, IntKind.bits, Int.reduceToNat, Int.reduceAdd, Nat.reducePow, Int.reducePow, and_true, true_and, and_self] <;> omega)) ?_
  intro A w hF hH
  refine wpList_nil ?_
  refine wp_seq ?_
  refine wp_seq ?_
  refine wp_region_lit ?_
  by_cases h : i < ds.length
  · refine ev0 [0, 0, 0, 1] tab hF hH rfl (by first | exact trivial | (simp only [All, inK_i64, inK_u64, inK_u32, inK_u8, inK_i32, max_i64, max_u64, IntKind.bits, Int.reduceToNat, Int.reduceAdd, Nat.reducePow, Int.reducePow, and_true, true_and, and_self] <;> omega)) ?_
    intro A w hF hH
    refine wpList_nil ?_
    refine cond_t hF rfl rfl ?_
    refine wp_seq ?_
    refine wp_region_lit ?_
    obtain ⟨b, off, rfl⟩ := hv.addr (by omega)
    have hd1 := hl ds[i] (List.getElem_mem h)
    refine evF [] [] (LFok.cons (hv.at_ (fun _ _ => rfl) i h) (LFok.nil _ _)) [0, 0, 0, 1, 0, 0] tab hF hH rfl (by first | exact trivial | (simp only [All, inK_i64, inK_u64, inK_u32, inK_u8, inK_i32, max_i64, max_u64, IntKind.bits, Int.reduceToNat, Int.reduceAdd, Nat.reducePow, Int.reducePow, and_true, true_and, and_self] <;> omega)) ?_
    intro A w hF hH
    refine wpList_nil ?_
    refine wp_ret ?_
    repeat (first | refine then_ret ?_ | refine blk_ret ?_ | refine ng_ret ?_)
    refine ret (M := []) (hs := []) tab hF hH rfl (by first | exact trivial | (simp only [All, inK_i64, inK_u64, inK_u32, inK_u8, inK_i32, max_i64, max_u64, IntKind.bits, Int.reduceToNat, Int.reduceAdd, Nat.reducePow, Int.reducePow, and_true, true_and, and_self] <;> omega)) ?_
    refine ⟨?_, hH⟩
    rw [List.drop_eq_getElem_cons h]; rfl
  · skip
    refine ev0 [0, 0, 0, 2] tab hF hH rfl (by first | exact trivial | (simp only [All, inK_i64, inK_u64, inK_u32, inK_u8, inK_i32, max_i64, max_u64, IntKind.bits, Int.reduceToNat, Int.reduceAdd, Nat.reducePow, Int.reducePow, and_true, true_and, and_self] <;> omega)) ?_
    intro A w hF hH
    refine wpList_nil ?_
    refine cond_f hF rfl rfl ?_
    refine wp_skip ?_
    refine wp_seq ?_
    refine wp_region_lit ?_
    refine ev0 [0] tab hF hH rfl (by first | exact trivial | (simp only [All, inK_i64, inK_u64, inK_u32, inK_u8, inK_i32, max_i64, max_u64, IntKind.bits, Int.reduceToNat, Int.reduceAdd, Nat.reducePow, Int.reducePow, and_true, true_and, and_self] <;> omega)) ?_
    intro A w hF hH
    refine wpList_nil ?_
    refine wp_ret ?_
    repeat (first | refine then_ret ?_ | refine blk_ret ?_ | refine ng_ret ?_)
    refine ret (M := []) (hs := []) tab hF hH rfl (by first | exact trivial | (simp only [All, inK_i64, inK_u64, inK_u32, inK_u8, inK_i32, max_i64, max_u64, IntKind.bits, Int.reduceToNat, Int.reduceAdd, Nat.reducePow, Int.reducePow, and_true, true_and, and_self] <;> omega)) ?_
    refine ⟨?_, hH⟩
    rw [List.drop_eq_nil_of_le (by omega)]; rfl

theorem getLast_take {ds : List Int} {m : Nat} (h : m ≤ ds.length) (hm : 0 < m) : (ds.take m).getLast? = ds[m - 1]? := by
  rw [List.getLast?_eq_getElem?, List.length_take, Nat.min_eq_left h, List.getElem?_take, if_pos (by omega)]
set_option maxRecDepth 20000 in
theorem cut_calls (κ : K) (v : Value) (ds : List Int) (hv : Rd κ [] 1 u32 v ds) (hl : Limbs ds) (hlen : ds.length ≤ 1073741824) (w : World) (C : List HP) (hH : Hp κ w C) :
    Calls Try.prog 75 #[v] w (fun e w' => ∃ v' ds', e = .returned v' ∧ NatR κ v' (val ds) ds' ∧ Hp κ w' C) := by
  obtain ⟨A0, cap, rfl, hcap⟩ := hv.form
  refine enter (args := [.slice A0 ds.length cap]) Try.func75 rfl rfl ?_
  intro A hF
  refine wp_seq ?_
  refine wp_region_lit ?_
  refine ev0 [0] tab hF hH rfl (by first | exact trivial | (simp only [All, inK_i64, inK_u64, inK_u32, inK_u8, inK_i32, max_i64, max_u64, IntKind.bits, Int.reduceToNat, Int.reduceAdd, Nat.reducePow, Int.reducePow, and_true, true_and, and_self] <;> omega)) ?_
  intro A w hF hH
  refine wpList_nil ?_
  refine wp_scope_straight ?_
  refine wp_seq ?_
  refine wp_region_lit ?_
  refine ev0 [0, 0, 0] tab hF hH rfl (by first | exact trivial | (simp only [All, inK_i64, inK_u64, inK_u32, inK_u8, inK_i32, max_i64, max_u64, IntKind.bits, Int.reduceToNat, Int.reduceAdd, Nat.reducePow, Int.reducePow, and_true, true_and, and_self] <;> omega)) ?_
  intro A w hF hH
  refine wpList_nil ?_
  refine wp_seq ?_
  refine wp_label ?_
  refine wp_seq ?_
  refine wp_block ?_
  refine loop_j (fun (n : Nat) A w => n ≤ ds.length ∧ (∀ j, n ≤ j → ∀ d, ds[j]? = some d → d = 0) ∧ Fr 20 A [(0, .slice A0 ds.length cap), (3, .int .i64 n)] ∧ Hp κ w C) (fun n => n) ds.length ⟨Nat.le_refl _, fun j hj d hd => (by rw [List.getElem?_eq_none hj] at hd; cases hd), Fr.to hF ⟨rfl, rfl, trivial⟩, hH⟩ ?_
  rintro n A w ⟨hn, hz, hF, hH⟩
  have fin : ∀ A w, Fr 20 A [(0, .slice A0 ds.length cap), (3, .int .i64 n)] → Hp κ w C → (∀ d, 0 < n → ds[n - 1]? = some d → d ≠ 0) → ∀ (d : Nat) (a' : Act), True → ∀ hv' : Value, hv' = .slice A0 n n → NatR κ hv' (val ds) (ds.take n) := by
    intro A w _ _ hne _ _ _ v' hv'
    subst hv'
    have hln : (ds.take n).length = n := by rw [List.length_take, Nat.min_eq_left hn]
    refine ⟨?_, hl.take n, ?_, val_take_zero ds n hz, by rw [hln]; omega⟩
    · rcases hv with ⟨h1, h2⟩ | ⟨b, off, cap', h1, h2, h3⟩
      · subst h2
        have : n = 0 := by simpa using hn
        subst this
        exact .inl ⟨⟨_, _, rfl⟩, by simp⟩
      · simp only [Value.slice.injEq] at h1
        refine .inr ⟨b, off, n, by rw [h1.1, hln], by rw [hln]; exact Nat.le_refl _, fun κ' w l hH => ?_⟩
        obtain ⟨cs, t, fr, hb, hc⟩ := h3 κ' w l hH
        refine ⟨cs, t, fr, hb, fun j u hu => hc j u ?_⟩
        rw [u32_map, List.getElem?_map] at hu ⊢
        rw [List.getElem?_take] at hu
        split at hu
        · exact hu
        · cases hu
    · intro d hd
      by_cases h0 : n = 0
      · subst h0; simp at hd
      · rw [getLast_take hn (by omega)] at hd
        exact hne d (by omega) hd
  refine wp_seq ?_
  refine wp_seq ?_
  refine wp_region_lit ?_
  by_cases h0 : n = 0
  · refine ev0 [0, 2] tab hF hH rfl (by first | exact trivial | (simp only [All, inK_i64, inK_u64, inK_u32, inK_u8, inK_i32, max_i64, max_u64, IntKind.bits, Int.reduceToNat, Int.reduceAdd, Nat.reducePow, Int.reducePow, and_true, true_and, and_self] <;> omega)) ?_
    intro A w hF hH
    refine wpList_nil ?_
    refine cond_f hF rfl rfl ?_
    refine wp_exit ?_
    repeat (first | refine then_exit ?_ | refine ng_exit ?_ | refine blk_exit ?_ | refine blk_exit_ne rfl ?_)
    refine wp_seq ?_
    refine wp_region_lit ?_
    subst h0
    refine ev0 [0, 0, 0] tab hF hH rfl (by first | exact trivial | (simp only [All, inK_i64, inK_u64, inK_u32, inK_u8, inK_i32, max_i64, max_u64, IntKind.bits, Int.reduceToNat, Int.reduceAdd, Nat.reducePow, Int.reducePow, and_true, true_and, and_self] <;> omega)) ?_
    intro A w hF hH
    refine list_act hF rfl ?_
    refine op_slice (l := 0) (h := 0) (m := 0) hF tab rfl rfl rfl rfl rfl rfl ?_ ?_ ?_ (by decide) ?_ ?_ ?_ ?_
    · first | exact rfl | exact ⟨_, rfl⟩
    · first | exact rfl | exact ⟨_, rfl⟩
    · first | exact rfl | exact ⟨_, rfl⟩
    · omega
    · omega
    · omega
    intro A hF
    refine ev0 [0] tab hF hH rfl (by first | exact trivial | (simp only [All, inK_i64, inK_u64, inK_u32, inK_u8, inK_i32, max_i64, max_u64, IntKind.bits, Int.reduceToNat, Int.reduceAdd, Nat.reducePow, Int.reducePow, and_true, true_and, and_self] <;> omega)) ?_
    intro A w hF hH
    refine wpList_nil ?_
    refine wp_ret ?_
    repeat (first | refine then_ret ?_ | refine blk_ret ?_ | refine ng_ret ?_)
    refine ret (M := []) (hs := []) tab hF hH rfl (by first | exact trivial | (simp only [All, inK_i64, inK_u64, inK_u32, inK_u8, inK_i32, max_i64, max_u64, IntKind.bits, Int.reduceToNat, Int.reduceAdd, Nat.reducePow, Int.reducePow, and_true, true_and, and_self] <;> omega)) ?_
    refine ⟨_, _, rfl, fin _ w (Fr.to hF ⟨rfl, rfl, trivial⟩) hH (fun d h => absurd h (by decide)) 0 A trivial _ ?_, hH⟩
    simp [one]
  · skip
    refine ev0 [0, 1] tab hF hH rfl (by first | exact trivial | (simp only [All, inK_i64, inK_u64, inK_u32, inK_u8, inK_i32, max_i64, max_u64, IntKind.bits, Int.reduceToNat, Int.reduceAdd, Nat.reducePow, Int.reducePow, and_true, true_and, and_self] <;> omega)) ?_
    intro A w hF hH
    refine wpList_nil ?_
    refine cond_t hF rfl rfl ?_
    refine wp_skip ?_
    refine wp_block ?_
    refine wp_seq ?_
    refine wp_seq ?_
    refine wp_region_lit ?_
    have hlt : n - 1 < ds.length := by omega
    obtain ⟨b, off, rfl⟩ := hv.addr (by omega)
    have hn1 : ((n : Int) - 1) = ((n - 1 : Nat) : Int) := by omega
    have hd1 := hl ds[n - 1] (List.getElem_mem hlt)
    by_cases hd : ds[n - 1] = 0
    · refine evF [] [] (LFok.cons (hv.at_ (fun _ _ => rfl) (n - 1) hlt) (LFok.nil _ _)) [0, 0, 0, 0, 1, 2] tab hF hH rfl (by first | exact trivial | (simp only [All, inK_i64, inK_u64, inK_u32, inK_u8, inK_i32, max_i64, max_u64, IntKind.bits, Int.reduceToNat, Int.reduceAdd, Nat.reducePow, Int.reducePow, and_true, true_and, and_self] <;> omega)) ?_
      intro A w hF hH
      refine wpList_nil ?_
      refine cond_f hF rfl rfl ?_
      refine wp_skip ?_
      refine wp_region_lit ?_
      refine ev0 [0, 0, 0] tab hF hH rfl (by first | exact trivial | (simp only [All, inK_i64, inK_u64, inK_u32, inK_u8, inK_i32, max_i64, max_u64, IntKind.bits, Int.reduceToNat, Int.reduceAdd, Nat.reducePow, Int.reducePow, and_true, true_and, and_self] <;> omega)) ?_
      intro A w hF hH
      refine wpList_nil ?_
      refine ⟨n - 1, ⟨by omega, fun j hj d hjd => ?_, Fr.to hF ⟨rfl, by rw [← hn1]; rfl, trivial⟩, hH⟩, by omega⟩
      by_cases hj' : n ≤ j
      · exact hz j hj' d hjd
      · have : j = n - 1 := by omega
        subst this
        rw [List.getElem?_eq_getElem hlt] at hjd
        simp only [Option.some.injEq] at hjd
        rw [← hjd]; exact hd
    · skip
      refine evF [] [] (LFok.cons (hv.at_ (fun _ _ => rfl) (n - 1) hlt) (LFok.nil _ _)) [0, 0, 0, 0, 1, 1] tab hF hH rfl (by first | exact trivial | (simp only [All, inK_i64, inK_u64, inK_u32, inK_u8, inK_i32, max_i64, max_u64, IntKind.bits, Int.reduceToNat, Int.reduceAdd, Nat.reducePow, Int.reducePow, and_true, true_and, and_self] <;> omega)) ?_
      intro A w hF hH
      refine wpList_nil ?_
      refine cond_t hF rfl rfl ?_
      refine wp_exit ?_
      repeat (first | refine then_exit ?_ | refine ng_exit ?_ | refine blk_exit ?_ | refine blk_exit_ne rfl ?_)
      refine wp_seq ?_
      refine wp_region_lit ?_
      refine ev0 [0, 0, 0] tab hF hH rfl (by first | exact trivial | (simp only [All, inK_i64, inK_u64, inK_u32, inK_u8, inK_i32, max_i64, max_u64, IntKind.bits, Int.reduceToNat, Int.reduceAdd, Nat.reducePow, Int.reducePow, and_true, true_and, and_self] <;> omega)) ?_
      intro A w hF hH
      refine list_act hF rfl ?_
      refine op_slice (l := 0) (h := n) (m := n) hF tab rfl rfl rfl rfl rfl rfl ?_ ?_ ?_ (by decide) ?_ ?_ ?_ ?_
      · first | exact rfl | exact ⟨_, rfl⟩
      · first | exact rfl | exact ⟨_, rfl⟩
      · first | exact rfl | exact ⟨_, rfl⟩
      · omega
      · omega
      · omega
      intro A hF
      refine ev0 [0] tab hF hH rfl (by first | exact trivial | (simp only [All, inK_i64, inK_u64, inK_u32, inK_u8, inK_i32, max_i64, max_u64, IntKind.bits, Int.reduceToNat, Int.reduceAdd, Nat.reducePow, Int.reducePow, and_true, true_and, and_self] <;> omega)) ?_
      intro A w hF hH
      refine wpList_nil ?_
      refine wp_ret ?_
      repeat (first | refine then_ret ?_ | refine blk_ret ?_ | refine ng_ret ?_)
      refine ret (M := []) (hs := []) tab hF hH rfl (by first | exact trivial | (simp only [All, inK_i64, inK_u64, inK_u32, inK_u8, inK_i32, max_i64, max_u64, IntKind.bits, Int.reduceToNat, Int.reduceAdd, Nat.reducePow, Int.reducePow, and_true, true_and, and_self] <;> omega)) ?_
      refine ⟨_, _, rfl, fin _ w (Fr.to hF ⟨rfl, rfl, trivial⟩) hH (fun d _ h => ?_) 0 A trivial _ ?_, hH⟩
      · rw [List.getElem?_eq_getElem hlt] at h
        simp only [Option.some.injEq] at h
        rw [← h]; exact hd
      · simp [one, if_neg h0, add_off]
end Go.Proofs.Try
