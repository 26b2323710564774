/- The document's supertask: the jobs that are released. -/
import Derived.Test.YtfapcagleghlaaaZc
set_option linter.all false
namespace Go.Proofs.Try
open Go Go.Sep

def lss (p q : Prt) : Prop := p.dl < q.dl ∨ (p.dl = q.dl ∧ p.k < q.k)
theorem not_lss {p q : Prt} (h : ¬ lss p q) : leP q p := by unfold lss at h; unfold leP; omega
theorem lss_le {p q : Prt} (h : lss p q) : leP p q := by unfold lss at h; unfold leP; omega
theorem insR {j : Prt} {A B : List Prt} (hs : Srt (A ++ B)) (h1 : ∀ x ∈ A, ¬ lss j x) (h2 : ∃ b B', B = b :: B' ∧ lss j b) : Srt (A ++ j :: B) := by
  obtain ⟨b, B', rfl, hb⟩ := h2
  obtain ⟨s1, s2, s3⟩ := List.pairwise_append.1 hs
  have s4 := List.pairwise_cons.1 s2
  refine List.pairwise_append.2 ⟨s1, List.pairwise_cons.2 ⟨fun y hy => ?_, s2⟩, fun x hx y hy => ?_⟩
  · rcases List.mem_cons.1 hy with rfl | hy
    · exact lss_le hb
    · exact leP_trans (lss_le hb) (s4.1 y hy)
  · rcases List.mem_cons.1 hy with rfl | hy
    · exact not_lss (h1 x hx)
    · exact s3 x hx y hy
theorem ins_last {j : Prt} {A : List Prt} (hs : Srt A) (h1 : ∀ x ∈ A, ¬ lss j x) : Srt (A ++ [j]) := by
  refine List.pairwise_append.2 ⟨hs, List.pairwise_singleton _ _, fun x hx y hy => ?_⟩
  rw [List.mem_singleton.1 hy]; exact not_lss (h1 x hx)
section
variable {κ : K} {w : World} {C : List HP}
theorem osl_addr {A : Option Addr} {m n cap E sz : Nat} {cs : List Value} (h : Hp κ w (osl (.slice A n cap) E sz m cs :: C)) (h0 : 0 < m) : ∃ b, A = some ⟨b, 0, none⟩ := by
  rcases osl_cases h with ⟨_, h1, _⟩ | ⟨b, cap', cur, hv, h3, h4, h5, h6, hR⟩
  · omega
  · simp only [Value.slice.injEq] at hv
    exact ⟨b, hv.1⟩
theorem At.osl {X : List HP} {b E sz m cap off : Nat} {cs vs : List Value} (i : Nat) (hX : X[i]? = some (osl (.slice (some ⟨b, 0, none⟩) m cap) E sz m cs)) (e : ∀ j v, vs[j]? = some v → cs[off + j]? = some v) :
    ∀ κ' w, κ.le κ' → Hp κ' w X → At w ⟨b, off, vs⟩ := fun κ' w _ h => osl_at (h.focus i hX) e
theorem getJ0 (js : List Prt) (i off : Nat) (h : i < js.length) (e : off = i * 5) : ∀ j u, (jenc js[i])[j]? = some u → (js.flatMap jenc)[off + j]? = some u := by
  have := getJ js [] i off h e
  simpa using this
theorem getJd (js : List Prt) (i off : Nat) (h : i < js.length) (e : off = i * 5 + 3) : ∀ j u, [(.int .i64 js[i].dl : Value)][j]? = some u → (js.flatMap jenc)[off + j]? = some u := by
  intro j u hu
  cases j with
  | zero => have := getJ0 js i (i * 5) h rfl 3 u hu; rw [e]; exact this
  | succ j => simp at hu
theorem getJk (js : List Prt) (i off : Nat) (h : i < js.length) (e : off = i * 5) : ∀ j u, [(.int .i64 js[i].k : Value)][j]? = some u → (js.flatMap jenc)[off + j]? = some u := by
  intro j u hu
  cases j with
  | zero => have := getJ0 js i (i * 5) h rfl 0 u hu; rw [e]; exact this
  | succ j => simp at hu
theorem len_snoc (N : List Prt) (x : Prt) : (N ++ [x]).length = N.length + 1 := by simp
theorem flat_snoc (N : List Prt) (x : Prt) : (N ++ [x]).flatMap jenc = N.flatMap jenc ++ jenc x := by simp
set_option maxHeartbeats 4000000 in
set_option maxRecDepth 20000 in
theorem rjobs_calls {r : Nat} {v : Value} {a0 : Int} {S : Sup} (at_ : Int) (hv : Rd κ [] 2 wenc v (bs S)) (hs : SInv a0 S.ps) (hpf : ∀ p ∈ S.ps, PFit p) (h8 : S.ps.length ≤ 8) (h0 : 0 ≤ a0) (hl : a0 ≤ S.last) (hH : Hp κ w (row r (rcells v a0 S) 56 :: C)) :
    Calls Try.prog 23 #[.pointer (some ⟨r, 0, none⟩), .int .i64 at_] w (fun e w' => ∃ v' O, e = .returned v' ∧ ((S.last ≤ at_ ∧ at_ ≤ 1099511627776) → O.Perm (relL at_ S.ps) ∧ Srt O) ∧ (¬ (S.last ≤ at_ ∧ at_ ≤ 1099511627776) → O = []) ∧ Hp κ w' (osl v' 40 5 O.length (O.flatMap jenc) :: row r (rcells v a0 S) 56 :: C)) := by
  have hbl := bs_len S
  obtain ⟨A0, cap, rfl, hcap⟩ := hv.form
  refine enter (args := [.pointer (some ⟨r, 0, none⟩), .int .i64 at_]) Try.func23 rfl rfl ?_
  intro A hF
  refine wp_seq ?_
  refine wp_region_lit ?_
  refine ev0 [0] tab hF hH rfl (by first | exact trivial | (simp only [All, inK_i64, inK_u64, inK_u32, inK_u8, inK_i32, max_i64, max_u64, IntKind.bits, Int.reduceToNat, Int.reduceAdd, Nat.reducePow, Int.reducePow, and_true, true_and, and_self] <;> omega)) ?_
  intro A w hF hH
  refine wpList_nil ?_
  refine wp_seq ?_
  refine wp_region_lit ?_
  refine ev0 [0, 0] tab hF hH rfl (by first | exact trivial | (simp only [All, inK_i64, inK_u64, inK_u32, inK_u8, inK_i32, max_i64, max_u64, IntKind.bits, Int.reduceToNat, Int.reduceAdd, Nat.reducePow, Int.reducePow, and_true, true_and, and_self] <;> omega)) ?_
  intro A w hF hH
  refine list_act hF rfl ?_
  refine op_call hF rfl rfl rfl rfl rfl rfl isF46 (rslot_calls at_ hH) ?_
  rintro e w ⟨rfl, hH⟩
  refine ⟨_, rfl, fun A hF => ?_⟩
  refine ev0 [0] tab hF hH rfl (by first | exact trivial | (simp only [All, inK_i64, inK_u64, inK_u32, inK_u8, inK_i32, max_i64, max_u64, IntKind.bits, Int.reduceToNat, Int.reduceAdd, Nat.reducePow, Int.reducePow, and_true, true_and, and_self] <;> omega)) ?_
  intro A w hF hH
  refine wpList_nil ?_
  refine wp_seq ?_
  refine wp_region_lit ?_
  refine ev0 [0] tab hF hH rfl (by first | exact trivial | (simp only [All, inK_i64, inK_u64, inK_u32, inK_u8, inK_i32, max_i64, max_u64, IntKind.bits, Int.reduceToNat, Int.reduceAdd, Nat.reducePow, Int.reducePow, and_true, true_and, and_self] <;> omega)) ?_
  intro A w hF hH
  refine wpList_nil ?_
  refine wp_seq ?_
  refine wp_seq ?_
  refine wp_region_lit ?_
  have hH := (osl_nil 40 5 hH).swap
  refine ev0 [0] tab hF hH rfl (by first | exact trivial | (simp only [All, inK_i64, inK_u64, inK_u32, inK_u8, inK_i32, max_i64, max_u64, IntKind.bits, Int.reduceToNat, Int.reduceAdd, Nat.reducePow, Int.reducePow, and_true, true_and, and_self] <;> omega)) ?_
  intro A w hF hH
  refine wpList_nil ?_
  refine wp_block ?_
  by_cases hsl : S.last ≤ at_ ∧ at_ ≤ 1099511627776
  · rw [show decide (S.last ≤ at_ ∧ at_ ≤ 1099511627776) = true from by simpa using hsl] at hF
    refine loop_j (fun (i : Nat) A w => i ≤ S.ps.length ∧ ∃ (OA : Option Addr) (ocap : Nat) (O : List Prt), O.Perm (relL at_ (S.ps.take i)) ∧ Srt O ∧ Fr 120 A [(7, .int .i64 i), (6, .slice OA O.length ocap), (5, .bool true), (0, .pointer (some ⟨r, 0, none⟩)), (1, .int .i64 at_)] ∧ Hp κ w (row r (rcells (.slice A0 (bs S).length cap) a0 S) 56 :: osl (.slice OA O.length ocap) 40 5 O.length (O.flatMap jenc) :: C)) (fun i => S.ps.length - i) 0 ⟨Nat.zero_le _, none, 0, [], List.Perm.refl _, List.Pairwise.nil, Fr.to hF ⟨rfl, rfl, rfl, rfl, rfl, trivial⟩, hH⟩ ?_
    rintro i A w ⟨hi, OA, ocap, O, hO, hOs, hF, hH⟩
    refine wp_seq ?_
    refine wp_seq ?_
    refine wp_region_lit ?_
    by_cases hlt : i < S.ps.length
    · refine evF [] [row r (rcells (.slice A0 (bs S).length cap) a0 S) 56] (LFok.cons (At.own (off := 0) (vs := [.slice A0 (bs S).length cap]) 0 rfl (own1 rfl)) (LFok.nil _ _)) [0, 0, 0, 0, 1, 0, 1, 0, 0, 0] tab hF hH rfl (by first | exact trivial | (simp only [All, inK_i64, inK_u64, inK_u32, inK_u8, inK_i32, max_i64, max_u64, IntKind.bits, Int.reduceToNat, Int.reduceAdd, Nat.reducePow, Int.reducePow, and_true, true_and, and_self] <;> omega)) ?_
      intro A w hF hH
      refine wpList_nil ?_
      refine cond_t hF rfl rfl ?_
      refine wp_skip ?_
      refine wp_seq ?_
      refine wp_block ?_
      refine wp_seq ?_
      have hv0 := hv
      obtain ⟨b0, off0, rfl⟩ := hv.addr (by omega)
      have hat := hv.at_ (fun _ _ => rfl) i (by omega)
      rw [bs_get] at hat
      have hpi := (hs i hlt).2
      have hki := (hs i hlt).1
      have hpfi := hpf S.ps[i] (List.getElem_mem hlt)
      have hsr := srv_range hpi hpfi
      have hsd := srv_div hpi
      have hdn := rc_done (v := .slice (some ⟨b0, off0, none⟩) (bs S).length cap) (a0 := a0) hlt h8
      have hat0 : ∀ κ' w, κ.le κ' → Hp κ' w [row r (rcells (.slice (some ⟨b0, off0, none⟩) (bs S).length cap) a0 S) 56] → At w ⟨b0, off0 + i * 2, [.int .i64 S.ps[i].E]⟩ := fun κ' w l hH => by
        obtain ⟨cs, t, fr, h1, h2⟩ := hat κ' w l hH.nil
        refine ⟨cs, t, fr, h1, fun j u hu => ?_⟩
        cases j with
        | zero => exact h2 0 u hu
        | succ j => simp at hu
      have hE1 := hpi.E1
      have htk : relL at_ (S.ps.take (i + 1)) = relL at_ (S.ps.take i) ++ relF at_ 1000 S.ps[i] := by
        simp only [relL, List.take_add_one, List.getElem?_eq_getElem hlt, Option.toList_some, List.flatMap_append, List.flatMap_cons, List.flatMap_nil, List.append_nil]
      have hlenA := relL_len at_ (S.ps.take i)
      rw [List.length_take, Nat.min_eq_left hi] at hlenA
      refine dr_all (by kernel_rfl) [] [row r (rcells (.slice (some ⟨b0, off0, none⟩) (bs S).length cap) a0 S) 56] [(0, 0), (1, 0), (2, 0), (3, 0), (4, 0), (5, 1), (6, 0), (7, 0), (8, 0), (9, 3), (10, 0), (11, 0), (12, 0), (13, 5), (14, 0), (15, 0)] tab (LFok.cons (At.own (off := 3 + i) (vs := [.int .i64 (srv S.ps[i])]) 0 rfl (own1 hdn)) (LFok.cons (At.own (off := 0) (vs := [.slice (some ⟨b0, off0, none⟩) (bs S).length cap]) 0 rfl (own1 rfl)) (LFok.cons hat0 (LFok.nil _ _)))) (by kernel_rfl) rfl hF hH (by kernel_rfl) (by kernel_rfl) rfl (by first | exact trivial | (simp only [All, inK_i64, inK_u64, inK_u32, inK_u8, inK_i32, max_i64, max_u64, IntKind.bits, Int.reduceToNat, Int.reduceAdd, Nat.reducePow, Int.reducePow, and_true, true_and, and_self] <;> omega)) ?_
      intro A w hF hH
      refine wp_seq ?_
      refine wp_region_lit ?_
      simp only [hsd] at hF
      refine ev0 [0, 0] tab hF hH rfl (by first | exact trivial | (simp only [All, inK_i64, inK_u64, inK_u32, inK_u8, inK_i32, max_i64, max_u64, IntKind.bits, Int.reduceToNat, Int.reduceAdd, Nat.reducePow, Int.reducePow, and_true, true_and, and_self] <;> omega)) ?_
      intro A w hF hH
      refine wpList_nil ?_
      refine wp_block ?_
      refine loop_j (fun (m : Nat) A w => m ≤ 1000 ∧ ∃ (q : Prt) (OA : Option Addr) (ocap : Nat) (O R : List Prt), R.length = m ∧ R ++ relF at_ (1000 - m) q = relF at_ 1000 S.ps[i] ∧ PInv a0 q ∧ q.E = S.ps[i].E ∧ q.P = S.ps[i].P ∧ q.k = i ∧ q.idx = S.ps[i].idx + m ∧ (if srv S.ps[i] - q.idx * q.E < 0 then 0 else srv S.ps[i] - q.idx * q.E) = q.E - q.left ∧ O.Perm (relL at_ (S.ps.take i) ++ R) ∧ Srt O ∧ Fr 120 A [(9, .int .i64 q.idx), (8, .int .i64 S.ps[i].idx), (7, .int .i64 i), (6, .slice OA O.length ocap), (5, .bool true), (0, .pointer (some ⟨r, 0, none⟩)), (1, .int .i64 at_)] ∧ Hp κ w (row r (rcells (.slice (some ⟨b0, off0, none⟩) (bs S).length cap) a0 S) 56 :: osl (.slice OA O.length ocap) 40 5 O.length (O.flatMap jenc) :: C)) (fun m => 1000 - m) 0 ⟨Nat.zero_le _, S.ps[i], OA, ocap, O, [], rfl, rfl, hpi, rfl, rfl, hki, by omega, (by rw [show srv S.ps[i] = S.ps[i].idx * S.ps[i].E + (S.ps[i].E - S.ps[i].left) from rfl, if_neg (by have := hpi.leftE; omega)]; omega), by simpa using hO, hOs, Fr.to hF ⟨rfl, rfl, rfl, rfl, rfl, rfl, rfl, trivial⟩, hH⟩ ?_
      rintro m A w ⟨hm, q, OA, ocap, O, R, hR, hRq, hq, hqE, hqP, hqk, hqi, hqd, hO, hOs, hF, hH⟩
      have hOl : O.length ≤ 1000 * i + m := by have := hO.length_eq; rw [List.length_append, hR] at this; omega
      refine wp_seq ?_
      refine wp_seq ?_
      refine wp_region_lit ?_
      refine ev0 [0, 0, 0, 0] tab hF hH rfl (by first | exact trivial | (simp only [All, inK_i64, inK_u64, inK_u32, inK_u8, inK_i32, max_i64, max_u64, IntKind.bits, Int.reduceToNat, Int.reduceAdd, Nat.reducePow, Int.reducePow, and_true, true_and, and_self] <;> omega)) ?_
      intro A w hF hH
      refine list_act hF rfl ?_
      refine op_call hF rfl rfl rfl rfl rfl rfl isF47 (released_calls (at_ := at_) hlt hv hpi h0 (by omega) hsl.2 hH) ?_
      rintro e w ⟨rfl, hH⟩
      refine ⟨_, rfl, fun A hF => ?_⟩
      have hri := rel_iff (at_ := at_) hq
      rw [hqP] at hri
      have hi8 : i < 8 := by omega
      by_cases hgo : q.rel ≤ at_ ∧ m < 1000
      · have hnr : ¬ (at_ - a0) / S.ps[i].P + 1 ≤ q.idx := fun h => by have := hri.1 h; omega
        have hi1 := hpfi.idx1
        have hi0 := hpfi.idx0
        refine ev0 [1, 0, 0, 0, 0, 1, 0] tab hF hH rfl (by first | exact trivial | (simp only [All, inK_i64, inK_u64, inK_u32, inK_u8, inK_i32, max_i64, max_u64, IntKind.bits, Int.reduceToNat, Int.reduceAdd, Nat.reducePow, Int.reducePow, and_true, true_and, and_self] <;> omega)) ?_
        intro A w hF hH
        refine wpList_nil ?_
        refine cond_t hF rfl rfl ?_
        refine wp_skip ?_
        refine wp_seq ?_
        refine wp_block ?_
        refine wp_seq ?_
        refine wp_region_lit ?_
        refine ev0 [0, 0, 0] tab hF hH rfl (by first | exact trivial | (simp only [All, inK_i64, inK_u64, inK_u32, inK_u8, inK_i32, max_i64, max_u64, IntKind.bits, Int.reduceToNat, Int.reduceAdd, Nat.reducePow, Int.reducePow, and_true, true_and, and_self] <;> omega)) ?_
        intro A w hF hH
        have hfit := hq.fit h0 hgo.1 hsl.2
        refine list_act hF rfl ?_
        refine op_call hF rfl rfl rfl rfl rfl rfl isF48 (job_calls (q := q) hlt h8 hv hpi h0 hsr hq hqE hqP hqk hqd hfit hH) ?_
        rintro e w ⟨rfl, hH⟩
        refine ⟨_, rfl, fun A hF => ?_⟩
        refine list_act hF rfl ?_
        refine op_alloc hF tab rfl rfl rfl rfl rfl hH ?_
        intro b10 A w hF hH
        refine evM [⟨b10, jenc zeroJ, 40⟩] [0] tab hF hH rfl (by first | exact trivial | (simp only [All, inK_i64, inK_u64, inK_u32, inK_u8, inK_i32, max_i64, max_u64, IntKind.bits, Int.reduceToNat, Int.reduceAdd, Nat.reducePow, Int.reducePow, and_true, true_and, and_self] <;> omega)) ?_
        intro A w hF hH
        refine wpList_nil ?_
        refine wp_seq ?_
        refine wp_region_lit ?_
        have hH : Hp κ _ (row b10 (jenc q) 40 :: _) := hH
        refine ev0 [0] tab hF hH rfl (by first | exact trivial | (simp only [All, inK_i64, inK_u64, inK_u32, inK_u8, inK_i32, max_i64, max_u64, IntKind.bits, Int.reduceToNat, Int.reduceAdd, Nat.reducePow, Int.reducePow, and_true, true_and, and_self] <;> omega)) ?_
        intro A w hF hH
        refine wpList_nil ?_
        refine wp_seq ?_
        refine wp_region_lit ?_
        have hH := osl_nil 40 5 hH
        refine ev0 [0] tab hF hH rfl (by first | exact trivial | (simp only [All, inK_i64, inK_u64, inK_u32, inK_u8, inK_i32, max_i64, max_u64, IntKind.bits, Int.reduceToNat, Int.reduceAdd, Nat.reducePow, Int.reducePow, and_true, true_and, and_self] <;> omega)) ?_
        intro A w hF hH
        refine wpList_nil ?_
        refine wp_seq ?_
        refine wp_seq ?_
        refine wp_region_lit ?_
        refine ev0 [0] tab hF hH rfl (by first | exact trivial | (simp only [All, inK_i64, inK_u64, inK_u32, inK_u8, inK_i32, max_i64, max_u64, IntKind.bits, Int.reduceToNat, Int.reduceAdd, Nat.reducePow, Int.reducePow, and_true, true_and, and_self] <;> omega)) ?_
        intro A w hF hH
        refine wpList_nil ?_
        refine wp_block ?_
        refine loop_j (fun (k : Nat) A w => k ≤ O.length ∧ ∃ (NA : Option Addr) (ncap : Nat) (N : List Prt) (put : Bool), ((put = false ∧ N = O.take k ∧ ∀ x ∈ O.take k, ¬ lss q x) ∨ (put = true ∧ ∃ A' B', O.take k = A' ++ B' ∧ N = A' ++ q :: B' ∧ (∀ x ∈ A', ¬ lss q x) ∧ ∃ b B'', B' = b :: B'' ∧ lss q b)) ∧ Fr 120 A [(13, .int .i64 k), (12, .bool put), (11, .slice NA N.length ncap), (10, .pointer (some ⟨b10, 0, none⟩)), (9, .int .i64 q.idx), (8, .int .i64 S.ps[i].idx), (7, .int .i64 i), (6, .slice OA O.length ocap), (5, .bool true), (0, .pointer (some ⟨r, 0, none⟩)), (1, .int .i64 at_)] ∧ Hp κ w (osl (.slice NA N.length ncap) 40 5 N.length (N.flatMap jenc) :: row b10 (jenc q) 40 :: row r (rcells (.slice (some ⟨b0, off0, none⟩) (bs S).length cap) a0 S) 56 :: osl (.slice OA O.length ocap) 40 5 O.length (O.flatMap jenc) :: C)) (fun k => O.length - k) 0 ⟨Nat.zero_le _, none, 0, [], false, .inl ⟨rfl, rfl, fun x h => by simp at h⟩, Fr.to hF ⟨rfl, rfl, rfl, rfl, rfl, rfl, rfl, rfl, rfl, rfl, rfl, trivial⟩, hH⟩ ?_
        rintro k A w ⟨hk, NA, ncap, N, put, hN, hF, hH⟩
        refine wp_seq ?_
        refine wp_seq ?_
        refine wp_region_lit ?_
        by_cases hk2 : k < O.length
        · replace hk := hk2
          have htk2 : O.take (k + 1) = O.take k ++ [O[k]] := by rw [List.take_add_one, List.getElem?_eq_getElem hk]; rfl
          have hko : k < 9000 := by omega
          refine ev0 [0, 0, 0, 1] tab hF hH rfl (by first | exact trivial | (simp only [All, inK_i64, inK_u64, inK_u32, inK_u8, inK_i32, max_i64, max_u64, IntKind.bits, Int.reduceToNat, Int.reduceAdd, Nat.reducePow, Int.reducePow, and_true, true_and, and_self] <;> omega)) ?_
          intro A w hF hH
          refine wpList_nil ?_
          refine cond_t hF rfl rfl ?_
          refine wp_skip ?_
          refine wp_seq ?_
          refine wp_block ?_
          refine wp_seq ?_
          refine wp_seq ?_
          have hH := (hH.focus 3 rfl).focus 2 rfl
          obtain ⟨OB, rfl⟩ := osl_addr (hH.focus 1 rfl) (by omega)
          rcases hN with ⟨rfl, rfl, hA⟩ | ⟨rfl, A', B', hAB, rfl, hA, x0, B'', rfl, hx0⟩
          · have hNl : (O.take k).length = k := by rw [List.length_take]; omega
            by_cases hlq : lss q O[k]
            · have hins : ∀ x ∈ O.take k, ¬ lss q x := hA
              by_cases hc : q.dl < O[k].dl
              · skip
                refine dr_all (by kernel_rfl) [] [row b10 (jenc q) 40, osl (.slice (some ⟨OB, 0, none⟩) O.length ocap) 40 5 O.length (O.flatMap jenc)] [(0, 0), (1, 0), (2, 0), (3, 0), (4, 1), (5, 0), (6, 0), (7, 0), (8, 0), (9, 3), (10, 1), (11, 0), (12, 0), (13, 1), (14, 0), (15, 0), (16, 0), (17, 0), (18, 3), (19, 0), (20, 0), (21, 0), (22, 5), (23, 0), (24, 0), (25, 0), (26, 0), (27, 7), (28, 0), (29, 0), (30, 0), (31, 0)] tab (LFok.cons (At.own (off := 3) (vs := [.int .i64 q.dl]) 0 rfl (own1 rfl)) (LFok.cons (At.osl (off := k * 5 + 3) (vs := [.int .i64 O[k].dl]) 1 rfl (getJd O k _ hk rfl)) (LFok.cons (At.own (off := 0) (vs := [.int .i64 q.k]) 0 rfl (own1 rfl)) (LFok.cons (At.osl (off := k * 5) (vs := [.int .i64 O[k].k]) 1 rfl (getJk O k _ hk rfl)) (LFok.nil _ _))))) (by kernel_rfl) rfl hF hH (by kernel_rfl) (by kernel_rfl) rfl (by first | exact trivial | (simp only [All, inK_i64, inK_u64, inK_u32, inK_u8, inK_i32, max_i64, max_u64, IntKind.bits, Int.reduceToNat, Int.reduceAdd, Nat.reducePow, Int.reducePow, and_true, true_and, and_self] <;> omega)) ?_
                intro A w hF hH
                refine cond_t hF rfl rfl ?_
                refine wp_seq ?_
                refine wp_region_lit ?_
                refine evM [⟨b10, jenc q, 40⟩] [0, 0] tab hF hH rfl (by first | exact trivial | (simp only [All, inK_i64, inK_u64, inK_u32, inK_u8, inK_i32, max_i64, max_u64, IntKind.bits, Int.reduceToNat, Int.reduceAdd, Nat.reducePow, Int.reducePow, and_true, true_and, and_self] <;> omega)) ?_
                intro A w hF hH
                refine list_act hF rfl ?_
                refine op_buildSlice hF tab rfl rfl rfl rfl rfl rfl rfl rfl hH ?_
                intro bs1 A w hF hH
                have hat2 := row_at hH (off := 0) (vs := jenc q) (fun j u h => by rw [Nat.zero_add]; exact h)
                have hH := hH.tail.focus 2 rfl
                refine list_act hF rfl ?_
                refine op_append hF tab rfl rfl rfl rfl rfl rfl rfl rfl hH hat2 rfl rfl (by simp [maxLen]; omega) (by simp; omega) ?_
                intro v A w hF hH
                obtain ⟨NA1, ncap1, rfl⟩ := osl_form hH
                rw [← len_snoc (O.take k) q] at hF hH
                rw [← flat_snoc (O.take k) q] at hH
                refine ev0 [0] tab hF hH rfl (by first | exact trivial | (simp only [All, inK_i64, inK_u64, inK_u32, inK_u8, inK_i32, max_i64, max_u64, IntKind.bits, Int.reduceToNat, Int.reduceAdd, Nat.reducePow, Int.reducePow, and_true, true_and, and_self] <;> omega)) ?_
                intro A w hF hH
                refine wpList_nil ?_
                refine wp_region_lit ?_
                refine ev0 [0] tab hF hH rfl (by first | exact trivial | (simp only [All, inK_i64, inK_u64, inK_u32, inK_u8, inK_i32, max_i64, max_u64, IntKind.bits, Int.reduceToNat, Int.reduceAdd, Nat.reducePow, Int.reducePow, and_true, true_and, and_self] <;> omega)) ?_
                intro A w hF hH
                refine wpList_nil ?_
                refine wp_region_lit ?_
                have hH := hH.focus 2 rfl
                refine evF [] [osl (.slice (some ⟨OB, 0, none⟩) O.length ocap) 40 5 O.length (O.flatMap jenc)] (LFok.cons (At.osl (off := k * 5) (vs := jenc O[k]) 0 rfl (getJ0 O k _ hk rfl)) (LFok.nil _ _)) [0, 0, 0, 0, 1] tab hF hH rfl (by first | exact trivial | (simp only [All, inK_i64, inK_u64, inK_u32, inK_u8, inK_i32, max_i64, max_u64, IntKind.bits, Int.reduceToNat, Int.reduceAdd, Nat.reducePow, Int.reducePow, and_true, true_and, and_self] <;> omega)) ?_
                intro A w hF hH
                refine list_act hF rfl ?_
                refine op_buildSlice hF tab rfl rfl rfl rfl rfl rfl rfl rfl hH ?_
                intro bs2 A w hF hH
                have hat3 := row_at hH (off := 0) (vs := jenc O[k]) (fun j u h => by rw [Nat.zero_add]; exact h)
                have hH := hH.tail.focus 1 rfl
                refine list_act hF rfl ?_
                refine op_append hF tab rfl rfl rfl rfl rfl rfl rfl rfl hH hat3 rfl rfl (by simp [maxLen]; omega) (by simp; omega) ?_
                intro v A w hF hH
                obtain ⟨NA2, ncap2, rfl⟩ := osl_form hH
                rw [← len_snoc (O.take k ++ [q]) O[k]] at hF hH
                rw [← flat_snoc (O.take k ++ [q]) O[k]] at hH
                refine ev0 [0] tab hF hH rfl (by first | exact trivial | (simp only [All, inK_i64, inK_u64, inK_u32, inK_u8, inK_i32, max_i64, max_u64, IntKind.bits, Int.reduceToNat, Int.reduceAdd, Nat.reducePow, Int.reducePow, and_true, true_and, and_self] <;> omega)) ?_
                intro A w hF hH
                refine wpList_nil ?_
                refine wp_region_lit ?_
                refine ev0 [0, 0, 0] tab hF hH rfl (by first | exact trivial | (simp only [All, inK_i64, inK_u64, inK_u32, inK_u8, inK_i32, max_i64, max_u64, IntKind.bits, Int.reduceToNat, Int.reduceAdd, Nat.reducePow, Int.reducePow, and_true, true_and, and_self] <;> omega)) ?_
                intro A w hF hH
                refine wpList_nil ?_
                refine ⟨k + 1, ⟨by omega, NA2, ncap2, O.take k ++ [q] ++ [O[k]], true, ?_, Fr.to hF ⟨rfl, rfl, rfl, rfl, rfl, rfl, rfl, rfl, rfl, rfl, rfl, trivial⟩, ?_⟩, by omega⟩
                · exact .inr ⟨rfl, O.take k, [O[k]], htk2, by simp, hins, O[k], [], rfl, hlq⟩
                · have hH := ((hH.focus 3 rfl).focus 3 rfl).focus 2 rfl
                  exact hH
              · have hc2 : q.dl = O[k].dl ∧ q.k < O[k].k := by unfold lss at hlq; omega
                refine dr_all (by kernel_rfl) [] [row b10 (jenc q) 40, osl (.slice (some ⟨OB, 0, none⟩) O.length ocap) 40 5 O.length (O.flatMap jenc)] [(0, 0), (1, 0), (2, 0), (3, 0), (4, 1), (5, 0), (6, 0), (7, 0), (8, 0), (9, 3), (10, 2), (11, 0), (12, 0), (13, 1), (14, 0), (15, 0), (16, 0), (17, 0), (18, 3), (19, 1), (20, 0), (21, 0), (22, 5), (23, 0), (24, 0), (25, 0), (26, 0), (27, 7), (28, 1), (29, 0), (30, 0), (31, 0)] tab (LFok.cons (At.own (off := 3) (vs := [.int .i64 q.dl]) 0 rfl (own1 rfl)) (LFok.cons (At.osl (off := k * 5 + 3) (vs := [.int .i64 O[k].dl]) 1 rfl (getJd O k _ hk rfl)) (LFok.cons (At.own (off := 0) (vs := [.int .i64 q.k]) 0 rfl (own1 rfl)) (LFok.cons (At.osl (off := k * 5) (vs := [.int .i64 O[k].k]) 1 rfl (getJk O k _ hk rfl)) (LFok.nil _ _))))) (by kernel_rfl) rfl hF hH (by kernel_rfl) (by kernel_rfl) rfl (by first | exact trivial | (simp only [All, inK_i64, inK_u64, inK_u32, inK_u8, inK_i32, max_i64, max_u64, IntKind.bits, Int.reduceToNat, Int.reduceAdd, Nat.reducePow, Int.reducePow, and_true, true_and, and_self] <;> omega)) ?_
                intro A w hF hH
                refine cond_t hF rfl rfl ?_
                refine wp_seq ?_
                refine wp_region_lit ?_
                refine evM [⟨b10, jenc q, 40⟩] [0, 0] tab hF hH rfl (by first | exact trivial | (simp only [All, inK_i64, inK_u64, inK_u32, inK_u8, inK_i32, max_i64, max_u64, IntKind.bits, Int.reduceToNat, Int.reduceAdd, Nat.reducePow, Int.reducePow, and_true, true_and, and_self] <;> omega)) ?_
                intro A w hF hH
                refine list_act hF rfl ?_
                refine op_buildSlice hF tab rfl rfl rfl rfl rfl rfl rfl rfl hH ?_
                intro bs1 A w hF hH
                have hat2 := row_at hH (off := 0) (vs := jenc q) (fun j u h => by rw [Nat.zero_add]; exact h)
                have hH := hH.tail.focus 2 rfl
                refine list_act hF rfl ?_
                refine op_append hF tab rfl rfl rfl rfl rfl rfl rfl rfl hH hat2 rfl rfl (by simp [maxLen]; omega) (by simp; omega) ?_
                intro v A w hF hH
                obtain ⟨NA1, ncap1, rfl⟩ := osl_form hH
                rw [← len_snoc (O.take k) q] at hF hH
                rw [← flat_snoc (O.take k) q] at hH
                refine ev0 [0] tab hF hH rfl (by first | exact trivial | (simp only [All, inK_i64, inK_u64, inK_u32, inK_u8, inK_i32, max_i64, max_u64, IntKind.bits, Int.reduceToNat, Int.reduceAdd, Nat.reducePow, Int.reducePow, and_true, true_and, and_self] <;> omega)) ?_
                intro A w hF hH
                refine wpList_nil ?_
                refine wp_region_lit ?_
                refine ev0 [0] tab hF hH rfl (by first | exact trivial | (simp only [All, inK_i64, inK_u64, inK_u32, inK_u8, inK_i32, max_i64, max_u64, IntKind.bits, Int.reduceToNat, Int.reduceAdd, Nat.reducePow, Int.reducePow, and_true, true_and, and_self] <;> omega)) ?_
                intro A w hF hH
                refine wpList_nil ?_
                refine wp_region_lit ?_
                have hH := hH.focus 2 rfl
                refine evF [] [osl (.slice (some ⟨OB, 0, none⟩) O.length ocap) 40 5 O.length (O.flatMap jenc)] (LFok.cons (At.osl (off := k * 5) (vs := jenc O[k]) 0 rfl (getJ0 O k _ hk rfl)) (LFok.nil _ _)) [0, 0, 0, 0, 1] tab hF hH rfl (by first | exact trivial | (simp only [All, inK_i64, inK_u64, inK_u32, inK_u8, inK_i32, max_i64, max_u64, IntKind.bits, Int.reduceToNat, Int.reduceAdd, Nat.reducePow, Int.reducePow, and_true, true_and, and_self] <;> omega)) ?_
                intro A w hF hH
                refine list_act hF rfl ?_
                refine op_buildSlice hF tab rfl rfl rfl rfl rfl rfl rfl rfl hH ?_
                intro bs2 A w hF hH
                have hat3 := row_at hH (off := 0) (vs := jenc O[k]) (fun j u h => by rw [Nat.zero_add]; exact h)
                have hH := hH.tail.focus 1 rfl
                refine list_act hF rfl ?_
                refine op_append hF tab rfl rfl rfl rfl rfl rfl rfl rfl hH hat3 rfl rfl (by simp [maxLen]; omega) (by simp; omega) ?_
                intro v A w hF hH
                obtain ⟨NA2, ncap2, rfl⟩ := osl_form hH
                rw [← len_snoc (O.take k ++ [q]) O[k]] at hF hH
                rw [← flat_snoc (O.take k ++ [q]) O[k]] at hH
                refine ev0 [0] tab hF hH rfl (by first | exact trivial | (simp only [All, inK_i64, inK_u64, inK_u32, inK_u8, inK_i32, max_i64, max_u64, IntKind.bits, Int.reduceToNat, Int.reduceAdd, Nat.reducePow, Int.reducePow, and_true, true_and, and_self] <;> omega)) ?_
                intro A w hF hH
                refine wpList_nil ?_
                refine wp_region_lit ?_
                refine ev0 [0, 0, 0] tab hF hH rfl (by first | exact trivial | (simp only [All, inK_i64, inK_u64, inK_u32, inK_u8, inK_i32, max_i64, max_u64, IntKind.bits, Int.reduceToNat, Int.reduceAdd, Nat.reducePow, Int.reducePow, and_true, true_and, and_self] <;> omega)) ?_
                intro A w hF hH
                refine wpList_nil ?_
                refine ⟨k + 1, ⟨by omega, NA2, ncap2, O.take k ++ [q] ++ [O[k]], true, ?_, Fr.to hF ⟨rfl, rfl, rfl, rfl, rfl, rfl, rfl, rfl, rfl, rfl, rfl, trivial⟩, ?_⟩, by omega⟩
                · exact .inr ⟨rfl, O.take k, [O[k]], htk2, by simp, hins, O[k], [], rfl, hlq⟩
                · have hH := ((hH.focus 3 rfl).focus 3 rfl).focus 2 rfl
                  exact hH
            · have hins : ∀ x ∈ O.take (k + 1), ¬ lss q x := fun x hx => by
                rw [htk2] at hx
                rcases List.mem_append.1 hx with hx | hx
                · exact hA x hx
                · rw [List.mem_singleton.1 hx]; exact hlq
              by_cases hc : q.dl = O[k].dl
              · have hc1 : ¬ q.dl < O[k].dl := by omega
                have hc2 : ¬ q.k < O[k].k := by unfold lss at hlq; omega
                refine dr_all (by kernel_rfl) [] [row b10 (jenc q) 40, osl (.slice (some ⟨OB, 0, none⟩) O.length ocap) 40 5 O.length (O.flatMap jenc)] [(0, 0), (1, 0), (2, 0), (3, 0), (4, 1), (5, 0), (6, 0), (7, 0), (8, 0), (9, 3), (10, 2), (11, 0), (12, 0), (13, 1), (14, 0), (15, 0), (16, 0), (17, 0), (18, 3), (19, 1), (20, 0), (21, 0), (22, 5), (23, 0), (24, 0), (25, 0), (26, 0), (27, 7), (28, 2), (29, 0), (30, 0), (31, 0)] tab (LFok.cons (At.own (off := 3) (vs := [.int .i64 q.dl]) 0 rfl (own1 rfl)) (LFok.cons (At.osl (off := k * 5 + 3) (vs := [.int .i64 O[k].dl]) 1 rfl (getJd O k _ hk rfl)) (LFok.cons (At.own (off := 0) (vs := [.int .i64 q.k]) 0 rfl (own1 rfl)) (LFok.cons (At.osl (off := k * 5) (vs := [.int .i64 O[k].k]) 1 rfl (getJk O k _ hk rfl)) (LFok.nil _ _))))) (by kernel_rfl) rfl hF hH (by kernel_rfl) (by kernel_rfl) rfl (by first | exact trivial | (simp only [All, inK_i64, inK_u64, inK_u32, inK_u8, inK_i32, max_i64, max_u64, IntKind.bits, Int.reduceToNat, Int.reduceAdd, Nat.reducePow, Int.reducePow, and_true, true_and, and_self] <;> omega)) ?_
                intro A w hF hH
                refine cond_f hF rfl rfl ?_
                refine wp_skip ?_
                refine wp_region_lit ?_
                have hH := hH.focus 2 rfl
                have hH := hH.focus 2 rfl
                refine evF [] [osl (.slice (some ⟨OB, 0, none⟩) O.length ocap) 40 5 O.length (O.flatMap jenc)] (LFok.cons (At.osl (off := k * 5) (vs := jenc O[k]) 0 rfl (getJ0 O k _ hk rfl)) (LFok.nil _ _)) [0, 0, 0, 0, 1] tab hF hH rfl (by first | exact trivial | (simp only [All, inK_i64, inK_u64, inK_u32, inK_u8, inK_i32, max_i64, max_u64, IntKind.bits, Int.reduceToNat, Int.reduceAdd, Nat.reducePow, Int.reducePow, and_true, true_and, and_self] <;> omega)) ?_
                intro A w hF hH
                refine list_act hF rfl ?_
                refine op_buildSlice hF tab rfl rfl rfl rfl rfl rfl rfl rfl hH ?_
                intro bs2 A w hF hH
                have hat3 := row_at hH (off := 0) (vs := jenc O[k]) (fun j u h => by rw [Nat.zero_add]; exact h)
                have hH := hH.tail.focus 1 rfl
                refine list_act hF rfl ?_
                refine op_append hF tab rfl rfl rfl rfl rfl rfl rfl rfl hH hat3 rfl rfl (by simp [maxLen]; omega) (by simp; omega) ?_
                intro v A w hF hH
                obtain ⟨NA2, ncap2, rfl⟩ := osl_form hH
                rw [← len_snoc (O.take k) O[k]] at hF hH
                rw [← flat_snoc (O.take k) O[k]] at hH
                refine ev0 [0] tab hF hH rfl (by first | exact trivial | (simp only [All, inK_i64, inK_u64, inK_u32, inK_u8, inK_i32, max_i64, max_u64, IntKind.bits, Int.reduceToNat, Int.reduceAdd, Nat.reducePow, Int.reducePow, and_true, true_and, and_self] <;> omega)) ?_
                intro A w hF hH
                refine wpList_nil ?_
                refine wp_region_lit ?_
                refine ev0 [0, 0, 0] tab hF hH rfl (by first | exact trivial | (simp only [All, inK_i64, inK_u64, inK_u32, inK_u8, inK_i32, max_i64, max_u64, IntKind.bits, Int.reduceToNat, Int.reduceAdd, Nat.reducePow, Int.reducePow, and_true, true_and, and_self] <;> omega)) ?_
                intro A w hF hH
                refine wpList_nil ?_
                refine ⟨k + 1, ⟨by omega, NA2, ncap2, O.take k ++ [O[k]], false, ?_, Fr.to hF ⟨rfl, rfl, rfl, rfl, rfl, rfl, rfl, rfl, rfl, rfl, rfl, trivial⟩, ?_⟩, by omega⟩
                · exact .inl ⟨rfl, htk2.symm, hins⟩
                · have hH := ((hH.focus 3 rfl).focus 3 rfl).focus 2 rfl
                  exact hH
              · have hc1 : ¬ q.dl < O[k].dl := by unfold lss at hlq; omega
                refine dr_all (by kernel_rfl) [] [row b10 (jenc q) 40, osl (.slice (some ⟨OB, 0, none⟩) O.length ocap) 40 5 O.length (O.flatMap jenc)] [(0, 0), (1, 0), (2, 0), (3, 0), (4, 1), (5, 0), (6, 0), (7, 0), (8, 0), (9, 3), (10, 2), (11, 0), (12, 0), (13, 1), (14, 0), (15, 0), (16, 0), (17, 0), (18, 3), (19, 2), (20, 0), (21, 0), (22, 5), (23, 0), (24, 0), (25, 0), (26, 0), (27, 7), (28, 0), (29, 0), (30, 0), (31, 0)] tab (LFok.cons (At.own (off := 3) (vs := [.int .i64 q.dl]) 0 rfl (own1 rfl)) (LFok.cons (At.osl (off := k * 5 + 3) (vs := [.int .i64 O[k].dl]) 1 rfl (getJd O k _ hk rfl)) (LFok.cons (At.own (off := 0) (vs := [.int .i64 q.k]) 0 rfl (own1 rfl)) (LFok.cons (At.osl (off := k * 5) (vs := [.int .i64 O[k].k]) 1 rfl (getJk O k _ hk rfl)) (LFok.nil _ _))))) (by kernel_rfl) rfl hF hH (by kernel_rfl) (by kernel_rfl) rfl (by first | exact trivial | (simp only [All, inK_i64, inK_u64, inK_u32, inK_u8, inK_i32, max_i64, max_u64, IntKind.bits, Int.reduceToNat, Int.reduceAdd, Nat.reducePow, Int.reducePow, and_true, true_and, and_self] <;> omega)) ?_
                intro A w hF hH
                refine cond_f hF rfl rfl ?_
                refine wp_skip ?_
                refine wp_region_lit ?_
                have hH := hH.focus 2 rfl
                have hH := hH.focus 2 rfl
                refine evF [] [osl (.slice (some ⟨OB, 0, none⟩) O.length ocap) 40 5 O.length (O.flatMap jenc)] (LFok.cons (At.osl (off := k * 5) (vs := jenc O[k]) 0 rfl (getJ0 O k _ hk rfl)) (LFok.nil _ _)) [0, 0, 0, 0, 1] tab hF hH rfl (by first | exact trivial | (simp only [All, inK_i64, inK_u64, inK_u32, inK_u8, inK_i32, max_i64, max_u64, IntKind.bits, Int.reduceToNat, Int.reduceAdd, Nat.reducePow, Int.reducePow, and_true, true_and, and_self] <;> omega)) ?_
                intro A w hF hH
                refine list_act hF rfl ?_
                refine op_buildSlice hF tab rfl rfl rfl rfl rfl rfl rfl rfl hH ?_
                intro bs2 A w hF hH
                have hat3 := row_at hH (off := 0) (vs := jenc O[k]) (fun j u h => by rw [Nat.zero_add]; exact h)
                have hH := hH.tail.focus 1 rfl
                refine list_act hF rfl ?_
                refine op_append hF tab rfl rfl rfl rfl rfl rfl rfl rfl hH hat3 rfl rfl (by simp [maxLen]; omega) (by simp; omega) ?_
                intro v A w hF hH
                obtain ⟨NA2, ncap2, rfl⟩ := osl_form hH
                rw [← len_snoc (O.take k) O[k]] at hF hH
                rw [← flat_snoc (O.take k) O[k]] at hH
                refine ev0 [0] tab hF hH rfl (by first | exact trivial | (simp only [All, inK_i64, inK_u64, inK_u32, inK_u8, inK_i32, max_i64, max_u64, IntKind.bits, Int.reduceToNat, Int.reduceAdd, Nat.reducePow, Int.reducePow, and_true, true_and, and_self] <;> omega)) ?_
                intro A w hF hH
                refine wpList_nil ?_
                refine wp_region_lit ?_
                refine ev0 [0, 0, 0] tab hF hH rfl (by first | exact trivial | (simp only [All, inK_i64, inK_u64, inK_u32, inK_u8, inK_i32, max_i64, max_u64, IntKind.bits, Int.reduceToNat, Int.reduceAdd, Nat.reducePow, Int.reducePow, and_true, true_and, and_self] <;> omega)) ?_
                intro A w hF hH
                refine wpList_nil ?_
                refine ⟨k + 1, ⟨by omega, NA2, ncap2, O.take k ++ [O[k]], false, ?_, Fr.to hF ⟨rfl, rfl, rfl, rfl, rfl, rfl, rfl, rfl, rfl, rfl, rfl, trivial⟩, ?_⟩, by omega⟩
                · exact .inl ⟨rfl, htk2.symm, hins⟩
                · have hH := ((hH.focus 3 rfl).focus 3 rfl).focus 2 rfl
                  exact hH
          · have hNl : (A' ++ q :: x0 :: B'').length = k + 1 := by
              have := congrArg List.length hAB
              rw [List.length_take, Nat.min_eq_left (by omega)] at this
              simp only [List.length_append, List.length_cons] at this ⊢; omega
            have hNl2 := hNl
            simp only [List.length_append, List.length_cons] at hNl2
            refine dr_all (by kernel_rfl) [] [row b10 (jenc q) 40, osl (.slice (some ⟨OB, 0, none⟩) O.length ocap) 40 5 O.length (O.flatMap jenc)] [(0, 0), (1, 0), (2, 0), (3, 0), (4, 1), (5, 0), (6, 0), (7, 0), (8, 0), (9, 3), (10, 0), (11, 0), (12, 0), (13, 1), (14, 0), (15, 0), (16, 0), (17, 0), (18, 3), (19, 0), (20, 0), (21, 0), (22, 5), (23, 0), (24, 0), (25, 0), (26, 0), (27, 7), (28, 0), (29, 0), (30, 0), (31, 0)] tab (LFok.cons (At.own (off := 3) (vs := [.int .i64 q.dl]) 0 rfl (own1 rfl)) (LFok.cons (At.osl (off := k * 5 + 3) (vs := [.int .i64 O[k].dl]) 1 rfl (getJd O k _ hk rfl)) (LFok.cons (At.own (off := 0) (vs := [.int .i64 q.k]) 0 rfl (own1 rfl)) (LFok.cons (At.osl (off := k * 5) (vs := [.int .i64 O[k].k]) 1 rfl (getJk O k _ hk rfl)) (LFok.nil _ _))))) (by kernel_rfl) rfl hF hH (by kernel_rfl) (by kernel_rfl) rfl (by first | exact trivial | (simp only [All, inK_i64, inK_u64, inK_u32, inK_u8, inK_i32, max_i64, max_u64, IntKind.bits, Int.reduceToNat, Int.reduceAdd, Nat.reducePow, Int.reducePow, and_true, true_and, and_self] <;> omega)) ?_
            intro A w hF hH
            refine cond_f hF rfl rfl ?_
            refine wp_skip ?_
            refine wp_region_lit ?_
            have hH := hH.focus 2 rfl
            have hH := hH.focus 2 rfl
            refine evF [] [osl (.slice (some ⟨OB, 0, none⟩) O.length ocap) 40 5 O.length (O.flatMap jenc)] (LFok.cons (At.osl (off := k * 5) (vs := jenc O[k]) 0 rfl (getJ0 O k _ hk rfl)) (LFok.nil _ _)) [0, 0, 0, 0, 1] tab hF hH rfl (by first | exact trivial | (simp only [All, inK_i64, inK_u64, inK_u32, inK_u8, inK_i32, max_i64, max_u64, IntKind.bits, Int.reduceToNat, Int.reduceAdd, Nat.reducePow, Int.reducePow, and_true, true_and, and_self] <;> omega)) ?_
            intro A w hF hH
            refine list_act hF rfl ?_
            refine op_buildSlice hF tab rfl rfl rfl rfl rfl rfl rfl rfl hH ?_
            intro bs2 A w hF hH
            have hat3 := row_at hH (off := 0) (vs := jenc O[k]) (fun j u h => by rw [Nat.zero_add]; exact h)
            have hH := hH.tail.focus 1 rfl
            refine list_act hF rfl ?_
            refine op_append hF tab rfl rfl rfl rfl rfl rfl rfl rfl hH hat3 rfl rfl (by simp [maxLen]; omega) (by simp; omega) ?_
            intro v A w hF hH
            obtain ⟨NA2, ncap2, rfl⟩ := osl_form hH
            rw [← len_snoc ((A' ++ q :: x0 :: B'')) O[k]] at hF hH
            rw [← flat_snoc ((A' ++ q :: x0 :: B'')) O[k]] at hH
            refine ev0 [0] tab hF hH rfl (by first | exact trivial | (simp only [All, inK_i64, inK_u64, inK_u32, inK_u8, inK_i32, max_i64, max_u64, IntKind.bits, Int.reduceToNat, Int.reduceAdd, Nat.reducePow, Int.reducePow, and_true, true_and, and_self] <;> omega)) ?_
            intro A w hF hH
            refine wpList_nil ?_
            refine wp_region_lit ?_
            refine ev0 [0, 0, 0] tab hF hH rfl (by first | exact trivial | (simp only [All, inK_i64, inK_u64, inK_u32, inK_u8, inK_i32, max_i64, max_u64, IntKind.bits, Int.reduceToNat, Int.reduceAdd, Nat.reducePow, Int.reducePow, and_true, true_and, and_self] <;> omega)) ?_
            intro A w hF hH
            refine wpList_nil ?_
            refine ⟨k + 1, ⟨by omega, NA2, ncap2, (A' ++ q :: x0 :: B'') ++ [O[k]], true, ?_, Fr.to hF ⟨rfl, rfl, rfl, rfl, rfl, rfl, rfl, rfl, rfl, rfl, rfl, trivial⟩, ?_⟩, by omega⟩
            · exact .inr ⟨rfl, A', x0 :: (B'' ++ [O[k]]), by rw [htk2, hAB]; simp, by simp, hA, x0, _, rfl, hx0⟩
            · have hH := ((hH.focus 3 rfl).focus 3 rfl).focus 2 rfl
              exact hH
        · have ek : k = O.length := by omega
          subst ek
          rw [List.take_length] at hN
          have hmm : (1000 : Nat) - m = (999 - m) + 1 := by omega
          have hRq2 : (R ++ [q]) ++ relF at_ (1000 - (m + 1)) (nextP q) = relF at_ 1000 S.ps[i] := by
            rw [← hRq, hmm, show 1000 - (m + 1) = 999 - m from by omega]
            conv => rhs; rw [relF, if_pos hgo.1]
            simp
          have hqd2 : (if srv S.ps[i] - (nextP q).idx * (nextP q).E < 0 then 0 else srv S.ps[i] - (nextP q).idx * (nextP q).E) = (nextP q).E - (nextP q).left := by
            have e1 : (S.ps[i].idx + 1) * q.E ≤ (nextP q).idx * (nextP q).E := Int.mul_le_mul_of_nonneg_right (by simp only [nextP]; omega) (by have := hq.E1; omega)
            have e2 : srv S.ps[i] = S.ps[i].idx * q.E + (q.E - S.ps[i].left) := by rw [hqE]; rfl
            rw [Int.add_mul] at e1
            have e3 := hpi.left1
            rw [if_pos (by omega)]
            simp [nextP]
          have hidx : (nextP q).idx = S.ps[i].idx + (m + 1 : Nat) := by simp only [nextP]; omega
          refine ev0 [0, 0, 0, 2] tab hF hH rfl (by first | exact trivial | (simp only [All, inK_i64, inK_u64, inK_u32, inK_u8, inK_i32, max_i64, max_u64, IntKind.bits, Int.reduceToNat, Int.reduceAdd, Nat.reducePow, Int.reducePow, and_true, true_and, and_self] <;> omega)) ?_
          intro A w hF hH
          refine wpList_nil ?_
          refine cond_f hF rfl rfl ?_
          refine wp_exit ?_
          repeat (first | refine then_exit ?_ | refine ng_exit ?_ | refine blk_exit ?_ | refine blk_exit_ne rfl ?_)
          refine wp_seq ?_
          refine wp_seq ?_
          refine wp_region_lit ?_
          rcases hN with ⟨rfl, hNO, hA⟩ | ⟨rfl, A', B', rfl, rfl, hA, hB⟩
          · rw [hNO] at hF hH
            refine ev0 [0, 0] tab hF hH rfl (by first | exact trivial | (simp only [All, inK_i64, inK_u64, inK_u32, inK_u8, inK_i32, max_i64, max_u64, IntKind.bits, Int.reduceToNat, Int.reduceAdd, Nat.reducePow, Int.reducePow, and_true, true_and, and_self] <;> omega)) ?_
            intro A w hF hH
            refine wpList_nil ?_
            refine cond_t hF rfl rfl ?_
            refine wp_region_lit ?_
            have hH := hH.swap
            refine evM [⟨b10, jenc q, 40⟩] [0, 0] tab hF hH rfl (by first | exact trivial | (simp only [All, inK_i64, inK_u64, inK_u32, inK_u8, inK_i32, max_i64, max_u64, IntKind.bits, Int.reduceToNat, Int.reduceAdd, Nat.reducePow, Int.reducePow, and_true, true_and, and_self] <;> omega)) ?_
            intro A w hF hH
            refine list_act hF rfl ?_
            refine op_buildSlice hF tab rfl rfl rfl rfl rfl rfl rfl rfl hH ?_
            intro bs1 A w hF hH
            have hat2 := row_at hH (off := 0) (vs := jenc q) (fun j u h => by rw [Nat.zero_add]; exact h)
            have hH := hH.tail.swap
            refine list_act hF rfl ?_
            refine op_append hF tab rfl rfl rfl rfl rfl rfl rfl rfl hH hat2 rfl rfl (by simp [maxLen]; omega) (by simp; omega) ?_
            intro v A w hF hH
            obtain ⟨NA1, ncap1, rfl⟩ := osl_form hH
            rw [← len_snoc O q] at hF hH
            rw [← flat_snoc O q] at hH
            refine ev0 [0] tab hF hH rfl (by first | exact trivial | (simp only [All, inK_i64, inK_u64, inK_u32, inK_u8, inK_i32, max_i64, max_u64, IntKind.bits, Int.reduceToNat, Int.reduceAdd, Nat.reducePow, Int.reducePow, and_true, true_and, and_self] <;> omega)) ?_
            intro A w hF hH
            refine wpList_nil ?_
            refine wp_region_lit ?_
            refine ev0 [0, 0] tab hF hH rfl (by first | exact trivial | (simp only [All, inK_i64, inK_u64, inK_u32, inK_u8, inK_i32, max_i64, max_u64, IntKind.bits, Int.reduceToNat, Int.reduceAdd, Nat.reducePow, Int.reducePow, and_true, true_and, and_self] <;> omega)) ?_
            intro A w hF hH
            refine wpList_nil ?_
            refine wp_region_lit ?_
            refine ev0 [0, 0, 0] tab hF hH rfl (by first | exact trivial | (simp only [All, inK_i64, inK_u64, inK_u32, inK_u8, inK_i32, max_i64, max_u64, IntKind.bits, Int.reduceToNat, Int.reduceAdd, Nat.reducePow, Int.reducePow, and_true, true_and, and_self] <;> omega)) ?_
            intro A w hF hH
            refine wpList_nil ?_
            refine ⟨m + 1, ⟨by omega, nextP q, NA1, ncap1, O ++ [q], R ++ [q], by simp [hR], hRq2, nextP_inv hq, hqE, hqP, hqk, hidx, hqd2, ?_, ins_last hOs hA, Fr.to hF ⟨rfl, rfl, rfl, rfl, rfl, rfl, rfl, trivial⟩, ?_⟩, by omega⟩
            · rw [← List.append_assoc]; exact List.Perm.append_right _ hO
            · have hH := ((hH.focus 2 rfl).focus 3 rfl).tail
              have hH := (hH.focus 2 rfl).tail
              exact hH
          · skip
            refine ev0 [0, 0] tab hF hH rfl (by first | exact trivial | (simp only [All, inK_i64, inK_u64, inK_u32, inK_u8, inK_i32, max_i64, max_u64, IntKind.bits, Int.reduceToNat, Int.reduceAdd, Nat.reducePow, Int.reducePow, and_true, true_and, and_self] <;> omega)) ?_
            intro A w hF hH
            refine wpList_nil ?_
            refine cond_f hF rfl rfl ?_
            refine wp_skip ?_
            refine wp_region_lit ?_
            refine ev0 [0, 0] tab hF hH rfl (by first | exact trivial | (simp only [All, inK_i64, inK_u64, inK_u32, inK_u8, inK_i32, max_i64, max_u64, IntKind.bits, Int.reduceToNat, Int.reduceAdd, Nat.reducePow, Int.reducePow, and_true, true_and, and_self] <;> omega)) ?_
            intro A w hF hH
            refine wpList_nil ?_
            refine wp_region_lit ?_
            refine ev0 [0, 0, 0] tab hF hH rfl (by first | exact trivial | (simp only [All, inK_i64, inK_u64, inK_u32, inK_u8, inK_i32, max_i64, max_u64, IntKind.bits, Int.reduceToNat, Int.reduceAdd, Nat.reducePow, Int.reducePow, and_true, true_and, and_self] <;> omega)) ?_
            intro A w hF hH
            refine wpList_nil ?_
            refine ⟨m + 1, ⟨by omega, nextP q, NA, ncap, A' ++ q :: B', R ++ [q], by simp [hR], hRq2, nextP_inv hq, hqE, hqP, hqk, hidx, hqd2, ?_, insR hOs hA hB, Fr.to hF ⟨rfl, rfl, rfl, rfl, rfl, rfl, rfl, trivial⟩, ?_⟩, by omega⟩
            · exact (List.perm_middle.trans ((List.Perm.cons q hO).trans (by rw [← List.append_assoc]; exact (List.perm_append_singleton q _).symm)))
            · have hH := ((hH.focus 2 rfl).focus 3 rfl).tail
              have hH := (hH.focus 2 rfl).tail
              exact hH
      · have hstop : R = relF at_ 1000 S.ps[i] := by
          rw [← hRq]
          rcases Nat.lt_or_ge m 1000 with h | h
          · obtain ⟨n, hn⟩ : ∃ n, 1000 - m = n + 1 := ⟨999 - m, by omega⟩
            rw [hn, relF, if_neg (fun h' => hgo ⟨h', h⟩), List.append_nil]
          · rw [show 1000 - m = 0 from by omega, relF, List.append_nil]
        have hi1 := hpfi.idx1
        have hi0 := hpfi.idx0
        by_cases hr : q.rel ≤ at_
        · have hnr : ¬ (at_ - a0) / S.ps[i].P + 1 ≤ q.idx := fun h => by have := hri.1 h; omega
          refine ev0 [1, 0, 0, 0, 0, 2, 0] tab hF hH rfl (by first | exact trivial | (simp only [All, inK_i64, inK_u64, inK_u32, inK_u8, inK_i32, max_i64, max_u64, IntKind.bits, Int.reduceToNat, Int.reduceAdd, Nat.reducePow, Int.reducePow, and_true, true_and, and_self] <;> omega)) ?_
          intro A w hF hH
          refine wpList_nil ?_
          refine cond_f hF rfl rfl ?_
          refine wp_exit ?_
          repeat (first | refine then_exit ?_ | refine ng_exit ?_ | refine blk_exit ?_ | refine blk_exit_ne rfl ?_)
          refine wp_region_lit ?_
          refine ev0 [0, 0, 0] tab hF hH rfl (by first | exact trivial | (simp only [All, inK_i64, inK_u64, inK_u32, inK_u8, inK_i32, max_i64, max_u64, IntKind.bits, Int.reduceToNat, Int.reduceAdd, Nat.reducePow, Int.reducePow, and_true, true_and, and_self] <;> omega)) ?_
          intro A w hF hH
          refine wpList_nil ?_
          exact ⟨i + 1, ⟨by omega, OA, ocap, O, by rw [htk, ← hstop]; exact hO, hOs, Fr.to hF ⟨rfl, rfl, rfl, rfl, rfl, trivial⟩, hH⟩, by omega⟩
        · have hnr := hri.2 (by omega)
          refine ev0 [2, 0, 0, 0, 0, 0, 0] tab hF hH rfl (by first | exact trivial | (simp only [All, inK_i64, inK_u64, inK_u32, inK_u8, inK_i32, max_i64, max_u64, IntKind.bits, Int.reduceToNat, Int.reduceAdd, Nat.reducePow, Int.reducePow, and_true, true_and, and_self] <;> omega)) ?_
          intro A w hF hH
          refine wpList_nil ?_
          refine cond_f hF rfl rfl ?_
          refine wp_exit ?_
          repeat (first | refine then_exit ?_ | refine ng_exit ?_ | refine blk_exit ?_ | refine blk_exit_ne rfl ?_)
          refine wp_region_lit ?_
          refine ev0 [0, 0, 0] tab hF hH rfl (by first | exact trivial | (simp only [All, inK_i64, inK_u64, inK_u32, inK_u8, inK_i32, max_i64, max_u64, IntKind.bits, Int.reduceToNat, Int.reduceAdd, Nat.reducePow, Int.reducePow, and_true, true_and, and_self] <;> omega)) ?_
          intro A w hF hH
          refine wpList_nil ?_
          exact ⟨i + 1, ⟨by omega, OA, ocap, O, by rw [htk, ← hstop]; exact hO, hOs, Fr.to hF ⟨rfl, rfl, rfl, rfl, rfl, trivial⟩, hH⟩, by omega⟩
    · skip
      refine evF [] [row r (rcells (.slice A0 (bs S).length cap) a0 S) 56] (LFok.cons (At.own (off := 0) (vs := [.slice A0 (bs S).length cap]) 0 rfl (own1 rfl)) (LFok.nil _ _)) [0, 0, 0, 0, 1, 0, 2, 0, 0, 0] tab hF hH rfl (by first | exact trivial | (simp only [All, inK_i64, inK_u64, inK_u32, inK_u8, inK_i32, max_i64, max_u64, IntKind.bits, Int.reduceToNat, Int.reduceAdd, Nat.reducePow, Int.reducePow, and_true, true_and, and_self] <;> omega)) ?_
      intro A w hF hH
      refine wpList_nil ?_
      refine cond_f hF rfl rfl ?_
      refine wp_exit ?_
      repeat (first | refine then_exit ?_ | refine ng_exit ?_ | refine blk_exit ?_ | refine blk_exit_ne rfl ?_)
      refine wp_seq ?_
      refine wp_region_lit ?_
      have ei : i = S.ps.length := by omega
      subst ei
      rw [List.take_length] at hO
      refine ev0 [0, 0] tab hF hH rfl (by first | exact trivial | (simp only [All, inK_i64, inK_u64, inK_u32, inK_u8, inK_i32, max_i64, max_u64, IntKind.bits, Int.reduceToNat, Int.reduceAdd, Nat.reducePow, Int.reducePow, and_true, true_and, and_self] <;> omega)) ?_
      intro A w hF hH
      refine wpList_nil ?_
      refine wp_ret ?_
      repeat (first | refine then_ret ?_ | refine blk_ret ?_ | refine ng_ret ?_)
      refine ret (M := []) (hs := []) tab hF hH rfl (by first | exact trivial | (simp only [All, inK_i64, inK_u64, inK_u32, inK_u8, inK_i32, max_i64, max_u64, IntKind.bits, Int.reduceToNat, Int.reduceAdd, Nat.reducePow, Int.reducePow, and_true, true_and, and_self] <;> omega)) ?_
      exact ⟨_, O, rfl, fun _ => ⟨hO, hOs⟩, fun h => absurd hsl h, hH.swap⟩
  · skip
    rw [show decide (S.last ≤ at_ ∧ at_ ≤ 1099511627776) = false from by simpa using hsl] at hF
    refine loop_j (fun (_ : Unit) A w => Fr 120 A [(7, .int .i64 0), (6, .slice none 0 0), (5, .bool false), (0, .pointer (some ⟨r, 0, none⟩)), (1, .int .i64 at_)] ∧ Hp κ w (row r (rcells (.slice A0 (bs S).length cap) a0 S) 56 :: osl (.slice none 0 0) 40 5 0 [] :: C)) (fun _ => 0) () ⟨Fr.to hF ⟨rfl, rfl, rfl, rfl, rfl, trivial⟩, hH⟩ ?_
    rintro _ A w ⟨hF, hH⟩
    refine wp_seq ?_
    refine wp_seq ?_
    refine wp_region_lit ?_
    by_cases hlt : 0 < (bs S).length
    · refine evF [] [row r (rcells (.slice A0 (bs S).length cap) a0 S) 56] (LFok.cons (At.own (off := 0) (vs := [.slice A0 (bs S).length cap]) 0 rfl (own1 rfl)) (LFok.nil _ _)) [0, 0, 0, 0, 1, 0, 1, 0, 0, 0] tab hF hH rfl (by first | exact trivial | (simp only [All, inK_i64, inK_u64, inK_u32, inK_u8, inK_i32, max_i64, max_u64, IntKind.bits, Int.reduceToNat, Int.reduceAdd, Nat.reducePow, Int.reducePow, and_true, true_and, and_self] <;> omega)) ?_
      intro A w hF hH
      refine wpList_nil ?_
      refine cond_f hF rfl rfl ?_
      refine wp_exit ?_
      repeat (first | refine then_exit ?_ | refine ng_exit ?_ | refine blk_exit ?_ | refine blk_exit_ne rfl ?_)
      refine wp_seq ?_
      refine wp_region_lit ?_
      refine ev0 [0, 0] tab hF hH rfl (by first | exact trivial | (simp only [All, inK_i64, inK_u64, inK_u32, inK_u8, inK_i32, max_i64, max_u64, IntKind.bits, Int.reduceToNat, Int.reduceAdd, Nat.reducePow, Int.reducePow, and_true, true_and, and_self] <;> omega)) ?_
      intro A w hF hH
      refine wpList_nil ?_
      refine wp_ret ?_
      repeat (first | refine then_ret ?_ | refine blk_ret ?_ | refine ng_ret ?_)
      refine ret (M := []) (hs := []) tab hF hH rfl (by first | exact trivial | (simp only [All, inK_i64, inK_u64, inK_u32, inK_u8, inK_i32, max_i64, max_u64, IntKind.bits, Int.reduceToNat, Int.reduceAdd, Nat.reducePow, Int.reducePow, and_true, true_and, and_self] <;> omega)) ?_
      exact ⟨_, [], rfl, fun h => absurd h hsl, fun _ => rfl, hH.swap⟩
    · skip
      refine evF [] [row r (rcells (.slice A0 (bs S).length cap) a0 S) 56] (LFok.cons (At.own (off := 0) (vs := [.slice A0 (bs S).length cap]) 0 rfl (own1 rfl)) (LFok.nil _ _)) [0, 0, 0, 0, 1, 0, 2, 0, 0, 0] tab hF hH rfl (by first | exact trivial | (simp only [All, inK_i64, inK_u64, inK_u32, inK_u8, inK_i32, max_i64, max_u64, IntKind.bits, Int.reduceToNat, Int.reduceAdd, Nat.reducePow, Int.reducePow, and_true, true_and, and_self] <;> omega)) ?_
      intro A w hF hH
      refine wpList_nil ?_
      refine cond_f hF rfl rfl ?_
      refine wp_exit ?_
      repeat (first | refine then_exit ?_ | refine ng_exit ?_ | refine blk_exit ?_ | refine blk_exit_ne rfl ?_)
      refine wp_seq ?_
      refine wp_region_lit ?_
      refine ev0 [0, 0] tab hF hH rfl (by first | exact trivial | (simp only [All, inK_i64, inK_u64, inK_u32, inK_u8, inK_i32, max_i64, max_u64, IntKind.bits, Int.reduceToNat, Int.reduceAdd, Nat.reducePow, Int.reducePow, and_true, true_and, and_self] <;> omega)) ?_
      intro A w hF hH
      refine wpList_nil ?_
      refine wp_ret ?_
      repeat (first | refine then_ret ?_ | refine blk_ret ?_ | refine ng_ret ?_)
      refine ret (M := []) (hs := []) tab hF hH rfl (by first | exact trivial | (simp only [All, inK_i64, inK_u64, inK_u32, inK_u8, inK_i32, max_i64, max_u64, IntKind.bits, Int.reduceToNat, Int.reduceAdd, Nat.reducePow, Int.reducePow, and_true, true_and, and_self] <;> omega)) ?_
      exact ⟨_, [], rfl, fun h => absurd h hsl, fun _ => rfl, hH.swap⟩
end
end Go.Proofs.Try
