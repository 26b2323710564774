/- Rows of jobs: the stable sort. -/
import Derived.Test.YtfapcagleghlaaaYg
set_option linter.all false
namespace Go.Proofs.Try
open Go Go.Sep

/-- Sorted rows of length s each. -/
def Chk (s : Nat) (cs : List (List Prt)) : Prop := ∀ c ∈ cs, c.length = s ∧ Srt c
theorem Chk.len {s : Nat} : ∀ {cs : List (List Prt)}, Chk s cs → cs.flatten.length = cs.length * s
  | [], _ => by simp
  | c :: cs, h => by
    have h1 := (h c (List.mem_cons_self ..)).1
    have h2 := Chk.len (cs := cs) fun d hd => h d (List.mem_cons_of_mem _ hd)
    rw [List.flatten_cons, List.length_append, h1, h2, List.length_cons, Nat.succ_mul]; omega
theorem Chk.snoc {s : Nat} {cs : List (List Prt)} {c : List Prt} (h : Chk s cs) (h1 : c.length = s) (h2 : Srt c) : Chk s (cs ++ [c]) := fun d hd => by
  rcases List.mem_append.1 hd with hd | hd
  · exact h d hd
  · simp at hd; subst hd; exact ⟨h1, h2⟩
section
variable {κ : K} {w : World} {C : List HP}
set_option maxHeartbeats 2000000 in
set_option maxRecDepth 20000 in
theorem stable_calls {b cap n : Nat} (js : List Prt) (junk : List Value) (hn : n = js.length) (hcap : n ≤ cap) (hl : n ≤ 1000000)
    (hH : Hp κ w (row b (js.flatMap jenc ++ junk) 40 :: C)) : Calls Try.prog 66 #[.slice (some ⟨b, 0, none⟩) n cap, .int .i64 n, .func (.func 37) #[] #[]] w
    (fun e w' => e = .returned (.tuple #[]) ∧ ∃ S : List Prt, S.Perm js ∧ Srt S ∧ Hp κ w' (row b (S.flatMap jenc ++ junk) 40 :: C)) := by
  refine enter (args := [.slice (some ⟨b, 0, none⟩) n cap, .int .i64 n, .func (.func 37) #[] #[]]) Try.func66 rfl rfl ?_
  intro A hF
  refine wp_seq ?_
  refine wp_region_lit ?_
  refine ev0 [0] tab hF hH rfl (by first | exact trivial | (simp only [All, inK_i64, inK_u64, inK_u32, inK_u8, inK_i32, max_i64, max_u64, IntKind.bits, Int.reduceToNat, Int.reduceAdd, Nat.reducePow, Int.reducePow, and_true, true_and, and_self] <;> omega)) ?_
  intro A w hF hH
  refine wpList_nil ?_
  refine wp_seq ?_
  refine wp_region_lit ?_
  refine ev0 [0, 0, 0] tab hF hH rfl (by first | exact trivial | (simp only [All, inK_i64, inK_u64, inK_u32, inK_u8, inK_i32, max_i64, max_u64, IntKind.bits, Int.reduceToNat, Int.reduceAdd, Nat.reducePow, Int.reducePow, and_true, true_and, and_self] <;> omega)) ?_
  intro A w hF hH
  refine wpList_nil ?_
  refine wp_seq ?_
  refine wp_block ?_
  refine loop_j (fun (k : Nat) A w => (∃ (cs : List (List Prt)) (R : List Prt), Chk 20 cs ∧ cs.length = k ∧ (cs.flatten ++ R).Perm js ∧ Hp κ w (row b ((cs.flatten ++ R).flatMap jenc ++ junk) 40 :: C)) ∧ Fr 63 A [(7, .int .i64 (20 * k : Nat)), (8, .int .i64 (20 * k + 20 : Nat)), (6, .int .i64 20), (0, .slice (some ⟨b, 0, none⟩) n cap), (1, .int .i64 n), (2, .func (.func 37) #[] #[])]) (fun k => n - 20 * k) 0 ⟨⟨[], js, (fun c hc => by cases hc), rfl, List.Perm.refl _, hH⟩, Fr.to hF ⟨rfl, rfl, rfl, rfl, rfl, rfl, trivial⟩⟩ ?_
  rintro k A w ⟨⟨cs, R, hcs, hk, hperm, hH⟩, hF⟩
  have hcl := hcs.len
  have hpl := hperm.length_eq
  rw [List.length_append, hcl, hk] at hpl
  refine wp_seq ?_
  refine wp_seq ?_
  refine wp_region_lit ?_
  by_cases hlt : 20 * k + 20 ≤ n
  · refine ev0 [0, 0, 1] tab hF hH rfl (by first | exact trivial | (simp only [All, inK_i64, inK_u64, inK_u32, inK_u8, inK_i32, max_i64, max_u64, IntKind.bits, Int.reduceToNat, Int.reduceAdd, Nat.reducePow, Int.reducePow, and_true, true_and, and_self] <;> omega)) ?_
    intro A w hF hH
    refine wpList_nil ?_
    refine cond_t hF rfl rfl ?_
    refine wp_skip ?_
    refine wp_block ?_
    refine wp_seq ?_
    refine wp_region_lit ?_
    refine ev0 [0, 0, 0, 0] tab hF hH rfl (by first | exact trivial | (simp only [All, inK_i64, inK_u64, inK_u32, inK_u8, inK_i32, max_i64, max_u64, IntKind.bits, Int.reduceToNat, Int.reduceAdd, Nat.reducePow, Int.reducePow, and_true, true_and, and_self] <;> omega)) ?_
    intro A w hF hH
    obtain ⟨R1, R2, rfl, hR1, hR2⟩ := split_at R 20 (by omega)
    refine list_act hF rfl ?_
    refine op_call hF rfl rfl rfl rfl rfl rfl isF80 (insert_calls (a := 20 * k) (c := 20 * k + 20) (len := n) cs.flatten R1 R2 junk (by rw [hcl, hk]; omega) (by rw [hcl, hk, hR1]; omega) (by rw [List.append_assoc, hperm.length_eq, hn]) hcap hl (by rw [List.append_assoc]; exact hH)) ?_
    rintro e w ⟨rfl, S, hSp, hSs, hH⟩
    refine ⟨_, rfl, fun A hF => ?_⟩
    refine wpList_nil ?_
    refine wp_seq ?_
    refine wp_region_lit ?_
    refine ev0 [0, 0] tab hF hH rfl (by first | exact trivial | (simp only [All, inK_i64, inK_u64, inK_u32, inK_u8, inK_i32, max_i64, max_u64, IntKind.bits, Int.reduceToNat, Int.reduceAdd, Nat.reducePow, Int.reducePow, and_true, true_and, and_self] <;> omega)) ?_
    intro A w hF hH
    refine wpList_nil ?_
    refine wp_region_lit ?_
    refine ev0 [0, 0, 0, 0] tab hF hH rfl (by first | exact trivial | (simp only [All, inK_i64, inK_u64, inK_u32, inK_u8, inK_i32, max_i64, max_u64, IntKind.bits, Int.reduceToNat, Int.reduceAdd, Nat.reducePow, Int.reducePow, and_true, true_and, and_self] <;> omega)) ?_
    intro A w hF hH
    refine wpList_nil ?_
    exact ⟨k + 1, ⟨⟨cs ++ [S], R2, hcs.snoc (by rw [hSp.length_eq, hR1]) hSs, by simp [hk], (by
      refine List.Perm.trans ?_ hperm
      simp only [List.flatten_append, List.flatten_cons, List.flatten_nil, List.append_nil, List.append_assoc]
      exact List.Perm.append_left _ (hSp.append_right R2)), by simpa using hH⟩, Fr.to hF ⟨rfl, rfl, rfl, rfl, rfl, rfl, trivial⟩⟩, by omega⟩
  · skip
    refine ev0 [0, 0, 2] tab hF hH rfl (by first | exact trivial | (simp only [All, inK_i64, inK_u64, inK_u32, inK_u8, inK_i32, max_i64, max_u64, IntKind.bits, Int.reduceToNat, Int.reduceAdd, Nat.reducePow, Int.reducePow, and_true, true_and, and_self] <;> omega)) ?_
    intro A w hF hH
    refine wpList_nil ?_
    refine cond_f hF rfl rfl ?_
    refine wp_exit ?_
    repeat (first | refine then_exit ?_ | refine ng_exit ?_ | refine blk_exit ?_ | refine blk_exit_ne rfl ?_)
    refine wp_seq ?_
    refine wp_region_lit ?_
    refine ev0 [0, 0, 0, 0] tab hF hH rfl (by first | exact trivial | (simp only [All, inK_i64, inK_u64, inK_u32, inK_u8, inK_i32, max_i64, max_u64, IntKind.bits, Int.reduceToNat, Int.reduceAdd, Nat.reducePow, Int.reducePow, and_true, true_and, and_self] <;> omega)) ?_
    intro A w hF hH
    refine list_act hF rfl ?_
    refine op_call hF rfl rfl rfl rfl rfl rfl isF80 (insert_calls (a := 20 * k) (c := n) (len := n) cs.flatten R [] junk (by rw [hcl, hk]; omega) (by rw [hcl, hk]; omega) (by rw [List.append_nil, hperm.length_eq, hn]) hcap hl (by rw [List.append_nil]; exact hH)) ?_
    rintro e w ⟨rfl, S, hSp, hSs, hH⟩
    refine ⟨_, rfl, fun A hF => ?_⟩
    refine wpList_nil ?_
    refine wp_block ?_
    rw [List.append_nil] at hH
    have hSl : S.length < 20 := by rw [hSp.length_eq]; omega
    have hperm2 : (cs.flatten ++ S).Perm js := (List.Perm.append_left _ hSp).trans hperm
    refine loop_j (fun (s : Nat) A w => (∃ (cs : List (List Prt)) (R : List Prt), Chk s cs ∧ Srt R ∧ R.length < s ∧ (cs.flatten ++ R).Perm js ∧ Hp κ w (row b ((cs.flatten ++ R).flatMap jenc ++ junk) 40 :: C)) ∧ s ≤ 4000000 ∧ Fr 63 A [(6, .int .i64 s), (0, .slice (some ⟨b, 0, none⟩) n cap), (1, .int .i64 n), (2, .func (.func 37) #[] #[])]) (fun s => n - s) 20 ⟨⟨cs, S, hcs, hSs, hSl, hperm2, hH⟩, by omega, Fr.to hF ⟨rfl, rfl, rfl, rfl, trivial⟩⟩ ?_
    clear hperm2 hSl hSs hSp hH hF hpl hcl hperm hk hcs
    rintro s A w ⟨⟨cs, R, hcs, hR, hRl, hperm, hH⟩, hs4, hF⟩
    have hcl := hcs.len
    have hpl := hperm.length_eq
    rw [List.length_append, hcl] at hpl
    refine wp_seq ?_
    refine wp_seq ?_
    refine wp_region_lit ?_
    by_cases hlt : s < n
    · refine ev0 [0, 0, 1] tab hF hH rfl (by first | exact trivial | (simp only [All, inK_i64, inK_u64, inK_u32, inK_u8, inK_i32, max_i64, max_u64, IntKind.bits, Int.reduceToNat, Int.reduceAdd, Nat.reducePow, Int.reducePow, and_true, true_and, and_self] <;> omega)) ?_
      intro A w hF hH
      refine wpList_nil ?_
      refine cond_t hF rfl rfl ?_
      refine wp_skip ?_
      refine wp_block ?_
      refine wp_seq ?_
      refine wp_region_lit ?_
      refine ev0 [0, 0, 0, 0] tab hF hH rfl (by first | exact trivial | (simp only [All, inK_i64, inK_u64, inK_u32, inK_u8, inK_i32, max_i64, max_u64, IntKind.bits, Int.reduceToNat, Int.reduceAdd, Nat.reducePow, Int.reducePow, and_true, true_and, and_self] <;> omega)) ?_
      intro A w hF hH
      refine wpList_nil ?_
      refine wp_seq ?_
      refine wp_block ?_
      have e2s : 2 * (s : Int) = ((2 * s : Nat) : Int) := by omega
      rw [e2s] at hF
      refine loop_j (fun (q : Nat) A w => (∃ (ds es : List (List Prt)), Chk (2 * s) ds ∧ Chk s es ∧ es.length = q ∧ (ds.flatten ++ (es.flatten ++ R)).Perm js ∧ Hp κ w (row b ((ds.flatten ++ (es.flatten ++ R)).flatMap jenc ++ junk) 40 :: C) ∧ Fr 63 A [(7, .int .i64 (ds.flatten.length : Nat)), (8, .int .i64 (ds.flatten.length + 2 * s : Nat)), (6, .int .i64 s), (0, .slice (some ⟨b, 0, none⟩) n cap), (1, .int .i64 n), (2, .func (.func 37) #[] #[])])) (fun q => q) cs.length ⟨[], cs, (fun c hc => by cases hc), hcs, rfl, hperm, hH, Fr.to hF ⟨rfl, by simp; rfl, rfl, rfl, rfl, rfl, trivial⟩⟩ ?_
      rintro q A w ⟨ds, es, hds, hes, hq, hperm, hH, hF⟩
      have hel := hes.len
      have hpl := hperm.length_eq
      rw [List.length_append, List.length_append, hel, hq] at hpl
      generalize hX : ds.flatten.length = x at *
      refine wp_seq ?_
      refine wp_seq ?_
      refine wp_region_lit ?_
      by_cases hb : x + 2 * s ≤ n
      · refine ev0 [0, 0, 1] tab hF hH rfl (by first | exact trivial | (simp only [All, inK_i64, inK_u64, inK_u32, inK_u8, inK_i32, max_i64, max_u64, IntKind.bits, Int.reduceToNat, Int.reduceAdd, Nat.reducePow, Int.reducePow, and_true, true_and, and_self] <;> omega)) ?_
        intro A w hF hH
        refine wpList_nil ?_
        refine cond_t hF rfl rfl ?_
        refine wp_skip ?_
        refine wp_block ?_
        refine wp_seq ?_
        refine wp_region_lit ?_
        match es, hes, hq, hel with
        | [], _, hq, _ => exfalso; simp at hq; subst hq; omega
        | [c], _, hq, _ => exfalso; simp at hq; subst hq; omega
        | c1 :: c2 :: es', hes, hq, hel =>
          have g1 := hes c1 (by simp)
          have g2 := hes c2 (by simp)
          have hes' : Chk s es' := fun c hc => hes c (by simp [hc])
          have em : (x : Int) + s = ((x + s : Nat) : Int) := by omega
          have eb : ((x + 2 * s : Nat) : Int) + 2 * s = ((x + 2 * s + 2 * s : Nat) : Int) := by omega
          simp only [List.flatten_cons, List.append_assoc] at hH hperm
          refine ev0 [0, 0, 0, 0, 0, 0, 0] tab hF hH rfl (by first | exact trivial | (simp only [All, inK_i64, inK_u64, inK_u32, inK_u8, inK_i32, max_i64, max_u64, IntKind.bits, Int.reduceToNat, Int.reduceAdd, Nat.reducePow, Int.reducePow, and_true, true_and, and_self] <;> omega)) ?_
          intro A w hF hH
          simp only [em] at hF
          refine list_act hF rfl ?_
          refine op_call hF rfl rfl rfl rfl rfl rfl isF81 (sym_calls (c1.length + c2.length) κ _ C b cap ds.flatten c1 c2 (es'.flatten ++ R) junk x (x + s) (x + 2 * s) n (Nat.le_refl _) (by omega) (by omega) hX.symm (by omega) (by omega) g1.2 g2.2 (by rw [hn, ← hperm.length_eq]; simp) hcap hl (by simpa only [List.append_assoc] using hH)) ?_
          rintro e w ⟨rfl, S, hSp, hSs, hH⟩
          refine ⟨_, rfl, fun A hF => ?_⟩
          refine wpList_nil ?_
          refine wp_seq ?_
          refine wp_region_lit ?_
          have hSl : S.length = 2 * s := by rw [hSp.length_eq, List.length_append]; omega
          have hXl : (ds ++ [S]).flatten.length = x + 2 * s := by simp [hX, hSl]
          refine ev0 [0, 0] tab hF hH rfl (by first | exact trivial | (simp only [All, inK_i64, inK_u64, inK_u32, inK_u8, inK_i32, max_i64, max_u64, IntKind.bits, Int.reduceToNat, Int.reduceAdd, Nat.reducePow, Int.reducePow, and_true, true_and, and_self] <;> omega)) ?_
          intro A w hF hH
          refine wpList_nil ?_
          refine wp_region_lit ?_
          refine ev0 [0, 0, 0, 0, 0] tab hF hH rfl (by first | exact trivial | (simp only [All, inK_i64, inK_u64, inK_u32, inK_u8, inK_i32, max_i64, max_u64, IntKind.bits, Int.reduceToNat, Int.reduceAdd, Nat.reducePow, Int.reducePow, and_true, true_and, and_self] <;> omega)) ?_
          intro A w hF hH
          simp only [eb] at hF
          refine wpList_nil ?_
          refine ⟨es'.length, ⟨ds ++ [S], es', hds.snoc hSl hSs, hes', rfl, ?_, by simpa using hH, Fr.to hF ⟨by rw [hXl]; rfl, by rw [hXl]; rfl, rfl, rfl, rfl, rfl, trivial⟩⟩, by simp at hq; omega⟩
          refine List.Perm.trans ?_ hperm
          simp only [List.flatten_append, List.flatten_cons, List.flatten_nil, List.append_nil, List.append_assoc]
          refine List.Perm.append_left _ ?_
          rw [← List.append_assoc c1 c2]
          exact hSp.append_right _
      · skip
        refine ev0 [0, 0, 2] tab hF hH rfl (by first | exact trivial | (simp only [All, inK_i64, inK_u64, inK_u32, inK_u8, inK_i32, max_i64, max_u64, IntKind.bits, Int.reduceToNat, Int.reduceAdd, Nat.reducePow, Int.reducePow, and_true, true_and, and_self] <;> omega)) ?_
        intro A w hF hH
        refine wpList_nil ?_
        refine cond_f hF rfl rfl ?_
        refine wp_exit ?_
        repeat (first | refine then_exit ?_ | refine ng_exit ?_ | refine blk_exit ?_ | refine blk_exit_ne rfl ?_)
        refine wp_seq ?_
        refine wp_seq ?_
        refine wp_region_lit ?_
        have e2 : (s : Int) * 2 = ((2 * s : Nat) : Int) := by omega
        match es, hes, hq, hel with
        | [], _, hq, _ =>
          simp at hq; subst hq
          refine ev0 [0, 0, 0, 0] tab hF hH rfl (by first | exact trivial | (simp only [All, inK_i64, inK_u64, inK_u32, inK_u8, inK_i32, max_i64, max_u64, IntKind.bits, Int.reduceToNat, Int.reduceAdd, Nat.reducePow, Int.reducePow, and_true, true_and, and_self] <;> omega)) ?_
          intro A w hF hH
          refine wpList_nil ?_
          refine wp_seq ?_
          refine wp_region_lit ?_
          refine ev0 [0, 0, 2] tab hF hH rfl (by first | exact trivial | (simp only [All, inK_i64, inK_u64, inK_u32, inK_u8, inK_i32, max_i64, max_u64, IntKind.bits, Int.reduceToNat, Int.reduceAdd, Nat.reducePow, Int.reducePow, and_true, true_and, and_self] <;> omega)) ?_
          intro A w hF hH
          refine wpList_nil ?_
          refine cond_f hF rfl rfl ?_
          refine wp_skip ?_
          refine wp_region_lit ?_
          refine ev0 [0, 0, 0] tab hF hH rfl (by first | exact trivial | (simp only [All, inK_i64, inK_u64, inK_u32, inK_u8, inK_i32, max_i64, max_u64, IntKind.bits, Int.reduceToNat, Int.reduceAdd, Nat.reducePow, Int.reducePow, and_true, true_and, and_self] <;> omega)) ?_
          intro A w hF hH
          simp only [e2] at hF
          refine wpList_nil ?_
          exact ⟨2 * s, ⟨⟨ds, R, hds, hR, by omega, by simpa using hperm, by simpa using hH⟩, by omega, Fr.to hF ⟨rfl, rfl, rfl, rfl, trivial⟩⟩, by omega⟩
        | [c], hes, hq, _ =>
          simp at hq; subst hq
          have g1 := hes c (by simp)
          simp only [List.flatten_cons, List.flatten_nil, List.append_nil] at hH hperm
          have em : (x : Int) + s = ((x + s : Nat) : Int) := by omega
          by_cases hR0 : 0 < R.length
          · skip
            refine ev0 [0, 0, 0, 0] tab hF hH rfl (by first | exact trivial | (simp only [All, inK_i64, inK_u64, inK_u32, inK_u8, inK_i32, max_i64, max_u64, IntKind.bits, Int.reduceToNat, Int.reduceAdd, Nat.reducePow, Int.reducePow, and_true, true_and, and_self] <;> omega)) ?_
            intro A w hF hH
            simp only [em] at hF
            refine wpList_nil ?_
            refine wp_seq ?_
            refine wp_region_lit ?_
            refine ev0 [0, 0, 1] tab hF hH rfl (by first | exact trivial | (simp only [All, inK_i64, inK_u64, inK_u32, inK_u8, inK_i32, max_i64, max_u64, IntKind.bits, Int.reduceToNat, Int.reduceAdd, Nat.reducePow, Int.reducePow, and_true, true_and, and_self] <;> omega)) ?_
            intro A w hF hH
            refine wpList_nil ?_
            refine cond_t hF rfl rfl ?_
            refine wp_region_lit ?_
            refine ev0 [0, 0, 0, 0, 0] tab hF hH rfl (by first | exact trivial | (simp only [All, inK_i64, inK_u64, inK_u32, inK_u8, inK_i32, max_i64, max_u64, IntKind.bits, Int.reduceToNat, Int.reduceAdd, Nat.reducePow, Int.reducePow, and_true, true_and, and_self] <;> omega)) ?_
            intro A w hF hH
            refine list_act hF rfl ?_
            refine op_call hF rfl rfl rfl rfl rfl rfl isF81 (sym_calls (c.length + R.length) κ _ C b cap ds.flatten c R [] junk x (x + s) n n (Nat.le_refl _) (by omega) hR0 hX.symm (by omega) (by omega) g1.2 hR (by rw [List.append_nil, hn, ← hperm.length_eq]) hcap hl (by rw [List.append_nil]; exact hH)) ?_
            rintro e w ⟨rfl, S, hSp, hSs, hH⟩
            refine ⟨_, rfl, fun A hF => ?_⟩
            refine wpList_nil ?_
            refine wp_region_lit ?_
            rw [List.append_nil] at hH
            have hSl : S.length = s + R.length := by rw [hSp.length_eq, List.length_append]; omega
            refine ev0 [0, 0, 0] tab hF hH rfl (by first | exact trivial | (simp only [All, inK_i64, inK_u64, inK_u32, inK_u8, inK_i32, max_i64, max_u64, IntKind.bits, Int.reduceToNat, Int.reduceAdd, Nat.reducePow, Int.reducePow, and_true, true_and, and_self] <;> omega)) ?_
            intro A w hF hH
            simp only [e2] at hF
            refine wpList_nil ?_
            exact ⟨2 * s, ⟨⟨ds, S, hds, hSs, by omega, (List.Perm.append_left _ hSp).trans hperm, hH⟩, by omega, Fr.to hF ⟨rfl, rfl, rfl, rfl, trivial⟩⟩, by omega⟩
          · have hR00 : R = [] := List.eq_nil_of_length_eq_zero (by omega)
            subst hR00
            rw [List.append_nil] at hH hperm
            refine ev0 [0, 0, 0, 0] tab hF hH rfl (by first | exact trivial | (simp only [All, inK_i64, inK_u64, inK_u32, inK_u8, inK_i32, max_i64, max_u64, IntKind.bits, Int.reduceToNat, Int.reduceAdd, Nat.reducePow, Int.reducePow, and_true, true_and, and_self] <;> omega)) ?_
            intro A w hF hH
            simp only [em] at hF
            refine wpList_nil ?_
            refine wp_seq ?_
            refine wp_region_lit ?_
            refine ev0 [0, 0, 2] tab hF hH rfl (by first | exact trivial | (simp only [All, inK_i64, inK_u64, inK_u32, inK_u8, inK_i32, max_i64, max_u64, IntKind.bits, Int.reduceToNat, Int.reduceAdd, Nat.reducePow, Int.reducePow, and_true, true_and, and_self] <;> omega)) ?_
            intro A w hF hH
            refine wpList_nil ?_
            refine cond_f hF rfl rfl ?_
            refine wp_skip ?_
            refine wp_region_lit ?_
            refine ev0 [0, 0, 0] tab hF hH rfl (by first | exact trivial | (simp only [All, inK_i64, inK_u64, inK_u32, inK_u8, inK_i32, max_i64, max_u64, IntKind.bits, Int.reduceToNat, Int.reduceAdd, Nat.reducePow, Int.reducePow, and_true, true_and, and_self] <;> omega)) ?_
            intro A w hF hH
            simp only [e2] at hF
            refine wpList_nil ?_
            exact ⟨2 * s, ⟨⟨ds, c, hds, g1.2, by omega, hperm, hH⟩, by omega, Fr.to hF ⟨rfl, rfl, rfl, rfl, trivial⟩⟩, by omega⟩
        | c1 :: c2 :: es', hes, hq, hel =>
          exfalso
          simp only [List.length_cons] at hq
          subst hq
          simp only [Nat.succ_mul] at hpl
          omega
    · skip
      refine ev0 [0, 0, 2] tab hF hH rfl (by first | exact trivial | (simp only [All, inK_i64, inK_u64, inK_u32, inK_u8, inK_i32, max_i64, max_u64, IntKind.bits, Int.reduceToNat, Int.reduceAdd, Nat.reducePow, Int.reducePow, and_true, true_and, and_self] <;> omega)) ?_
      intro A w hF hH
      refine wpList_nil ?_
      refine cond_f hF rfl rfl ?_
      refine wp_exit ?_
      repeat (first | refine then_exit ?_ | refine ng_exit ?_ | refine blk_exit ?_ | refine blk_exit_ne rfl ?_)
      refine fin (M := []) (hs := []) tab hF hH rfl (by first | exact trivial | (simp only [All, inK_i64, inK_u64, inK_u32, inK_u8, inK_i32, max_i64, max_u64, IntKind.bits, Int.reduceToNat, Int.reduceAdd, Nat.reducePow, Int.reducePow, and_true, true_and, and_self] <;> omega)) ?_
      refine ⟨rfl, cs.flatten ++ R, hperm, ?_, hH⟩
      match cs, hcs, hcl with
      | [], _, _ => exact hR
      | [c], hcs, hcl =>
        have h1 := hcs c (by simp)
        have : R = [] := List.eq_nil_of_length_eq_zero (by simp at hcl hpl; omega)
        subst this
        simpa using h1.2
      | c :: d :: cs, hcs, hcl =>
        exfalso
        have h1 := (hcs c (by simp)).1
        simp only [List.length_cons, Nat.succ_mul] at hpl
        omega
end
end Go.Proofs.Try
