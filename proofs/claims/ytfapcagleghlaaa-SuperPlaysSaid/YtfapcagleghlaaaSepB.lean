/- A reflective evaluator of the operations of a region over a known frame and known blocks, and the proof that the machine does as it says. -/
import Derived.Deep.MidRow
import Derived.Test.YtfapcagleghlaaaSepA
set_option linter.all false
namespace Go.Sep
open Go

/-- A type's underlying kind, as far as the operations ask. -/
inductive TK where
  | bool | int (k : IntKind) | str | ptr (e : Nat) | slice (e : Nat) | arr (n e : Nat) | map (k e : Nat) | chan (e : Nat)
  | struct (fs : List (Nat × Nat)) | func | iface | other
def tk : TypeDesc → TK
  | .bool => .bool | .int k => .int k | .string => .str | .pointer e => .ptr e | .slice e => .slice e | .array n e => .arr n e
  | .map k e => .map k e | .chan _ e => .chan e | .struct fs => .struct (fs.toList.map fun f => (f.offset, f.type)) | .func .. => .func | .interface _ => .iface | _ => .other
structure TI where
  kind : TK
  size : Nat
  bytes : Nat
  zero : Value
def lkT : List (Nat × TI) → Nat → Option TI
  | [], _ => none
  | (k, v) :: L, s => bif Nat.beq k s then some v else lkT L s
def tiOf (P : Program) (t : Nat) : Option (TK × Nat × Nat × Option Value) :=
  match P.underlying t, P.info? t with
  | some d, some i => some (tk d, i.size, i.bytes, i.zero)
  | _, _ => none
/-- The table T tells P's types. -/
def Tab (P : Program) (T : List (Nat × TI)) : Prop := ∀ t i, lkT T t = some i → tiOf P t = some (i.kind, i.size, i.bytes, some i.zero)
theorem lkT_mem {T : List (Nat × TI)} {t : Nat} {i : TI} (h : lkT T t = some i) : (t, i) ∈ T := by
  induction T with
  | nil => cases h
  | cons p T ih =>
    obtain ⟨k, v⟩ := p
    simp only [lkT] at h
    cases hb : Nat.beq k t with
    | true => rw [hb] at h; simp at h; subst h; rw [Nat.eq_of_beq_eq_true hb]; exact List.mem_cons_self ..
    | false => rw [hb] at h; exact List.mem_cons_of_mem _ (ih h)
theorem Tab.mk {P : Program} {T : List (Nat × TI)} (h : (T.map fun p => tiOf P p.1) = T.map fun p => some (p.2.kind, p.2.size, p.2.bytes, some p.2.zero)) : Tab P T := by
  intro t i hi
  have := lkT_mem hi
  exact List.map_inj_left.1 h _ this
structure TyIs (P : Program) (t : Nat) (i : TI) : Prop where
  out : ∃ d j, P.underlying t = some d ∧ tk d = i.kind ∧ P.info? t = some j ∧ j.size = i.size ∧ j.bytes = i.bytes ∧ j.zero = some i.zero
theorem Tab.get {P : Program} {T : List (Nat × TI)} (h : Tab P T) {t : Nat} {i : TI} (e : lkT T t = some i) : TyIs P t i := by
  have := h t i e
  unfold tiOf at this
  split at this
  · rename_i d j hd hj
    simp only [Option.some.injEq, Prod.mk.injEq] at this
    exact ⟨d, j, hd, this.1, hj, this.2.1, this.2.2.1, this.2.2.2⟩
  · cases this

/-- A number that a kind holds. -/
def InK (k : IntKind) (n : Int) : Prop := k.min ≤ n ∧ n ≤ k.max
theorem wrap_in {k : IntKind} {n : Int} (h : InK k n) : k.wrap n = n := by
  obtain ⟨h1, h2⟩ := h
  unfold IntKind.wrap
  cases k <;> simp [IntKind.min, IntKind.max, IntKind.signed, IntKind.bits] at * <;> omega

/-- The cells of a row, written out. -/
def force {α : Type} : List Value → (List Value → Option α) → Option α
  | [], k => k []
  | x :: xs, k => force xs fun ys => k (x :: ys)
theorem force_eq {α : Type} (l : List Value) : ∀ k : List Value → Option α, force l k = k l := by
  induction l with
  | nil => intro k; rfl
  | cons x l ih => intro k; simp [force, ih]
def setL : List Value → Nat → Value → List Value
  | [], _, _ => []
  | _ :: l, 0, v => v :: l
  | x :: l, n + 1, v => x :: setL l n v
theorem setL_eq (l : List Value) : ∀ (n : Nat) (v : Value), setL l n v = l.set n v := by
  induction l with
  | nil => intro n v; rfl
  | cons x l ih => intro n v; cases n with
    | zero => rfl
    | succ n => simp [setL, ih]
def putL (l : List Value) (n : Nat) : List Value → List Value
  | [] => l
  | v :: vs => putL (setL l n v) (n + 1) vs
def cutL (l : List Value) (off n : Nat) : List Value := (l.drop off).take n

abbrev Fs := List (Nat × Value)
def lookAll {α : Type} (L : Fs) : List Operand → (List Value → Option α) → Option α
  | [], k => k []
  | x :: xs, k => match look L x with
    | some v => lookAll L xs fun vs => k (v :: vs)
    | none => none

def cellsL : Value → List Value
  | .agg cs => cs.toList
  | v => [v]

def All : List Prop → Prop
  | [] => True
  | c :: cs => c ∧ All cs

def isMask (k : IntKind) (b : Int) : Bool := (match k with | .i64 | .u64 => true | _ => false) && (decide (b = 7) || decide (b = 127) || decide (b = 4294967295))
/-- Integers' operations; h: 0 what is in range, 1 as it wraps; comparisons: 1 what is true, 2 what is false. -/
def arith (op : BinOp) (h : Nat) (k : IntKind) (a b : Int) : Option (Value × List Prop) :=
  match op, h with
  | .add, 0 => some (.int k (a + b), [InK k (a + b)])
  | .sub, 0 => some (.int k (a - b), [InK k (a - b)])
  | .mul, 0 => some (.int k (a * b), [InK k (a * b)])
  | .add, _ => some (.int k (k.wrap (a + b)), [])
  | .sub, _ => some (.int k (k.wrap (a - b)), [])
  | .mul, _ => some (.int k (k.wrap (a * b)), [])
  | .quo, 0 => some (.int k (a / b), [0 ≤ a ∧ a ≤ k.max ∧ 0 < b])
  | .rem, 0 => some (.int k (a % b), [0 ≤ a ∧ 0 < b])
  | .quo, _ => some (.int k (k.wrap (a.tdiv b)), [b ≠ 0])
  | .rem, _ => some (.int k (a.tmod b), [b ≠ 0])
  | .eql, 0 => some (.bool (decide (a = b)), [])
  | .eql, 1 => some (.bool true, [a = b])
  | .eql, _ => some (.bool false, [¬ a = b])
  | .neq, 0 => some (.bool (decide (¬ a = b)), [])
  | .neq, 1 => some (.bool true, [¬ a = b])
  | .neq, _ => some (.bool false, [a = b])
  | .lss, 0 => some (.bool (decide (a < b)), [])
  | .lss, 1 => some (.bool true, [a < b])
  | .lss, _ => some (.bool false, [¬ a < b])
  | .leq, 0 => some (.bool (decide (a ≤ b)), [])
  | .leq, 1 => some (.bool true, [a ≤ b])
  | .leq, _ => some (.bool false, [¬ a ≤ b])
  | .gtr, 0 => some (.bool (decide (b < a)), [])
  | .gtr, 1 => some (.bool true, [b < a])
  | .gtr, _ => some (.bool false, [¬ b < a])
  | .geq, 0 => some (.bool (decide (b ≤ a)), [])
  | .geq, 1 => some (.bool true, [b ≤ a])
  | .geq, _ => some (.bool false, [¬ b ≤ a])
  | .shl, 0 => some (.int k (a * 2 ^ b.toNat), [0 ≤ b ∧ b ≤ k.bits ∧ InK k (a * 2 ^ b.toNat)])
  | .shr, 0 => some (.int k (a / 2 ^ b.toNat), [0 ≤ b ∧ b ≤ k.bits])
  | .and, 0 => bif isMask k b then some (.int k (a % (b + 1)), []) else none
  | _, _ => none

def binEv (op : BinOp) (h : Nat) : Value → Value → Option (Value × List Prop)
  | .int k a, .int k' b => match op with
    | .shl | .shr => arith op h k a b
    | _ => bif decide (k = k') then arith op h k a b else none
  | .pointer none, .pointer none => match op with | .eql => some (.bool true, []) | .neq => some (.bool false, []) | _ => none
  | .pointer (some _), .pointer none => match op with | .eql => some (.bool false, []) | .neq => some (.bool true, []) | _ => none
  | .bool a, .bool b => match op, h with
    | .eql, 0 => some (.bool (a == b), []) | .neq, 0 => some (.bool (!(a == b)), [])
    | .eql, 1 => some (.bool true, [a = b]) | .eql, 2 => some (.bool false, [¬ a = b])
    | .neq, 1 => some (.bool true, [¬ a = b]) | .neq, 2 => some (.bool false, [a = b])
    | _, _ => none
  | .slice a _ _, .slice none _ _ => match op, a with
    | .eql, some _ => some (.bool false, []) | .neq, some _ => some (.bool true, [])
    | .eql, none => some (.bool true, []) | .neq, none => some (.bool false, [])
    | _, _ => none
  | _, _ => none

def isAggK : TK → Bool
  | .struct _ | .arr _ _ => true
  | _ => false

/-- Which kind an operand type of a binary operation may have, beside the values. -/
def binOk (T : List (Nat × TI)) (t : Nat) : Value → Bool
  | .int _ _ => true
  | .pointer _ => match lkT T t with | some ⟨.ptr _, _, _, _⟩ => true | _ => false
  | .bool _ => match lkT T t with | some ⟨.bool, _, _, _⟩ => true | _ => false
  | .slice _ _ _ => match lkT T t with | some ⟨.slice _, _, _, _⟩ => true | _ => false
  | _ => false

def fillL (place : Nat → Option (Nat × Nat)) (cells : List Value) : List (Nat × Value) → Option (List Value)
  | [] => some cells
  | (i, v) :: rest => match place i with
    | none => none
    | some (off, size) =>
      bif Nat.beq (cellsL v).length size && Nat.ble (off + (cellsL v).length) cells.length then fillL place (putL cells off (cellsL v)) rest else none

def lookParts {α : Type} (L : Fs) : List (Nat × Operand) → (List (Nat × Value) → Option α) → Option α
  | [], k => k []
  | (i, x) :: xs, k => match look L x with
    | some v => lookParts L xs fun vs => k ((i, v) :: vs)
    | none => none

def placesOf (T : List (Nat × TI)) : List (Nat × Nat) → Option (List (Nat × Nat))
  | [] => some []
  | (o, t) :: fs => match lkT T t, placesOf T fs with
    | some ti, some r => some ((o, ti.size) :: r)
    | _, _ => none

/-- One operation that neither makes nor turns memory: what it yields, and on which terms. -/
def pv (T : List (Nat × TI)) (L : Fs) (h : Nat) : Op → Option (Value × List Prop)
  | .move x | .assign x => match look L x with | some v => some (v, []) | none => none
  | .pick c a b => match look L c with
    | some (.bool true) => match look L a with | some v => some (v, []) | none => none
    | some (.bool false) => match look L b with | some v => some (v, []) | none => none
    | _ => none
  | .nilCheck x => match look L x with
    | some (.pointer (some a)) => some (.pointer (some a), [])
    | some (.func (.func f) fi ca) => some (.func (.func f) fi ca, [])
    | _ => none
  | .unOp .not _ x => match look L x with | some (.bool b) => some (.bool (!b), []) | _ => none
  | .unOp .neg _ x => match look L x with
    | some (.int k n) => (match h with | 0 => some (.int k (-n), [InK k (-n)]) | _ => some (.int k (k.wrap (-n)), []))
    | _ => none
  | .binOp op t x y _ => match look L x, look L y with
    | some a, some b => bif binOk T t a then binEv op h a b else none
    | _, _ => none
  | .convert src dst x => match look L x, lkT T dst, lkT T src with
    | some (.int _ n), some ⟨.int k, _, _, _⟩, some ⟨.int _, _, _, _⟩ => (match h with | 0 => some (.int k n, [InK k n]) | _ => some (.int k (k.wrap n), []))
    | _, _, _ => none
  | .makeFunc fn first captured => lookAll L first.toList fun f => lookAll L captured.toList fun c => some (Value.func fn f.toArray c.toArray, [])
  | .fieldAddr s x i => match look L x, lkT T s with
    | some (.pointer (some ⟨b, off, none⟩)), some ⟨.struct fs, _, _, _⟩ => (match fs[i]? with
      | some (o, t) => (match lkT T t with
        | some ⟨_, _ + 1, _, _⟩ => some (.pointer (some ⟨b, off + o, none⟩), [])
        | _ => none)
      | none => none)
    | _, _ => none
  | .indexAddr t x ix => match look L x, look L ix, lkT T t with
    | some (.pointer (some ⟨b, off, none⟩)), some (.int _ i), some ⟨.arr n e, _, _, _⟩ => (match lkT T e with
      | some ei => some (.pointer (some ⟨b, off + i.toNat * ei.size, none⟩), [0 ≤ i ∧ i < n])
      | none => none)
    | some (.slice (some ⟨b, off, none⟩) n _), some (.int _ i), some ⟨.slice e, _, _, _⟩ => (match lkT T e with
      | some ei => some (.pointer (some ⟨b, off + i.toNat * ei.size, none⟩), [0 ≤ i ∧ i < n])
      | none => none)
    | _, _, _ => none
  | .field s x i => match look L x, lkT T s with
    | some (.agg cs), some ⟨.struct fs, _, _, _⟩ => (match fs[i]? with
      | some (o, t) => (match lkT T t with
        | some ti => bif isAggK ti.kind then force (cutL cs.toList o ti.size) fun l => some (.agg l.toArray, [])
          else (match cs.toList[o]? with | some v => some (v, []) | none => none)
        | none => none)
      | none => none)
    | _, _ => none
  | .extract t i => match look L t with
    | some (.tuple vs) => (match vs.toList[i]? with | some v => some (v, []) | none => none)
    | _ => none
  | .build t ps => match lkT T t with
    | some ⟨.struct fs, _, _, z⟩ => (match placesOf T fs with
      | some pl => lookParts L ps.toList fun ps => (match fillL (fun i => pl[i]?) (cellsL z) ps with
        | some l => force l fun l => some (Value.agg l.toArray, [])
        | none => none)
      | none => none)
    | some ⟨.arr _ e, _, _, z⟩ => (match lkT T e with
      | some ei => lookParts L ps.toList fun ps => (match fillL (fun i => some (i * ei.size, ei.size)) (cellsL z) ps with
        | some l => force l fun l => some (Value.agg l.toArray, [])
        | none => none)
      | none => none)
    | _ => none
  | .call ⟨callee, args, argTypes⟩ => match callee with
    | .builtin .len => (match args.toList, argTypes.toList with
      | [x], [t] => (match look L x, lkT T t with
        | some (.slice _ n _), some ⟨.slice _, _, _, _⟩ => some (.int .i64 n, [])
        | some _, some ⟨.arr n _, _, _, _⟩ => some (.int .i64 n, [])
        | some (.string s), some ⟨.str, _, _, _⟩ => some (.int .i64 s.size, [])
        | _, _ => none)
      | _, _ => none)
    | .builtin .max => (match args.toList with
      | [x, y] => (match look L x, look L y with
        | some (.int k a), some (.int _ b) => some (.int k (max a b), [])
        | _, _ => none)
      | _ => none)
    | .builtin .min => (match args.toList with
      | [x, y] => (match look L x, look L y with
        | some (.int k a), some (.int _ b) => some (.int k (min a b), [])
        | _, _ => none)
      | _ => none)
    | _ => none
  | _ => none


/-! ### The evaluator tells what the machine does -/
theorem TyIs.und {P : Program} {t : Nat} {i : TI} (h : TyIs P t i) : ∃ d, P.underlying t = some d ∧ tk d = i.kind := let ⟨d, _, h1, h2, _⟩ := h.out; ⟨d, h1, h2⟩
theorem TyIs.run_size {P : Program} {t : Nat} {i : TI} (h : TyIs P t i) (w : World) : (sizeOf t).run P w = .ok i.size w := by
  obtain ⟨d, j, h1, h2, h3, h4, h5, h6⟩ := h.out
  simp [sizeOf, typeInfo, h3, h4, go_sem]
theorem TyIs.run_zero {P : Program} {t : Nat} {i : TI} (h : TyIs P t i) (w : World) : (zeroValue t).run P w = .ok i.zero w := by
  obtain ⟨d, j, h1, h2, h3, h4, h5, h6⟩ := h.out
  simp [zeroValue, typeInfo, h3, h6, go_sem]
theorem und_of {P : Program} {t : Nat} {d : TypeDesc} (h : P.underlying t = some d) (w : World) : (underlying t).run P w = .ok d w := run_underlying h w
theorem TyIs.run_agg {P : Program} {t : Nat} {i : TI} (h : TyIs P t i) (w : World) : (isAgg t).run P w = .ok (isAggK i.kind) w := by
  obtain ⟨d, hd, hk⟩ := h.und
  simp only [isAgg, Sem.run_bind, und_of hd, Result.andThen_ok]
  rw [← hk]
  cases d <;> rfl
theorem TyIs.struct {P : Program} {t : Nat} {fs : List (Nat × Nat)} {s b : Nat} {z : Value} (h : TyIs P t ⟨.struct fs, s, b, z⟩) :
    ∃ F, P.underlying t = some (.struct F) ∧ fs = F.toList.map fun f => (f.offset, f.type) := by
  obtain ⟨d, hd, hk⟩ := h.und
  cases d <;> simp [tk] at hk
  exact ⟨_, hd, hk.symm⟩
theorem TyIs.arr {P : Program} {t n e : Nat} {s b : Nat} {z : Value} (h : TyIs P t ⟨.arr n e, s, b, z⟩) : P.underlying t = some (.array n e) := by
  obtain ⟨d, hd, hk⟩ := h.und
  cases d <;> simp [tk] at hk
  obtain ⟨rfl, rfl⟩ := hk; exact hd
theorem TyIs.slice {P : Program} {t e : Nat} {s b : Nat} {z : Value} (h : TyIs P t ⟨.slice e, s, b, z⟩) : P.underlying t = some (.slice e) := by
  obtain ⟨d, hd, hk⟩ := h.und
  cases d <;> simp [tk] at hk
  subst hk; exact hd
theorem TyIs.int {P : Program} {t : Nat} {k : IntKind} {s b : Nat} {z : Value} (h : TyIs P t ⟨.int k, s, b, z⟩) : P.underlying t = some (.int k) := by
  obtain ⟨d, hd, hk⟩ := h.und
  cases d <;> simp [tk] at hk
  subst hk; exact hd
theorem TyIs.ptr {P : Program} {t e : Nat} {s b : Nat} {z : Value} (h : TyIs P t ⟨.ptr e, s, b, z⟩) : P.underlying t = some (.pointer e) := by
  obtain ⟨d, hd, hk⟩ := h.und
  cases d <;> simp [tk] at hk
  subst hk; exact hd
theorem TyIs.map {P : Program} {t k e : Nat} {s b : Nat} {z : Value} (h : TyIs P t ⟨.map k e, s, b, z⟩) : P.underlying t = some (.map k e) := by
  obtain ⟨d, hd, hk⟩ := h.und
  cases d <;> simp [tk] at hk
  obtain ⟨rfl, rfl⟩ := hk; exact hd
theorem TyIs.str {P : Program} {t : Nat} {s b : Nat} {z : Value} (h : TyIs P t ⟨.str, s, b, z⟩) : P.underlying t = some .string := by
  obtain ⟨d, hd, hk⟩ := h.und
  cases d <;> simp [tk] at hk
  exact hd
theorem TyIs.bool {P : Program} {t : Nat} {s b : Nat} {z : Value} (h : TyIs P t ⟨.bool, s, b, z⟩) : P.underlying t = some .bool := by
  obtain ⟨d, hd, hk⟩ := h.und
  cases d <;> simp [tk] at hk
  exact hd

def Sees (ρ : Operand → Value) (L : Fs) : Prop := ∀ x v, look L x = some v → ρ x = v
theorem Fr.sees {n : Nat} {a : Act} {L : Fs} (h : Fr n a L) : Sees a.eval L := fun _ _ e => h.eval e

theorem add_off (b off n : Nat) : (⟨b, off, none⟩ : Addr).add n = ⟨b, off + n, none⟩ := by
  unfold Addr.add; split <;> simp_all

theorem bits_ite (k : IntKind) : (match k with | IntKind.i8 => 8 | IntKind.u8 => 8 | IntKind.i16 => 16 | IntKind.u16 => 16 | IntKind.i32 => 32 | IntKind.u32 => 32 | IntKind.i64 => 64 | IntKind.u64 => 64) = k.bits := by cases k <;> rfl

theorem isMask_spec {k : IntKind} {b : Int} (h : isMask k b = true) : (k = .i64 ∨ k = .u64) ∧ ∃ n : Nat, n ≤ 32 ∧ b = 2 ^ n - 1 := by
  simp only [isMask, Bool.and_eq_true, Bool.or_eq_true, decide_eq_true_eq] at h
  obtain ⟨h1, h2⟩ := h
  refine ⟨by cases k <;> simp at h1 ⊢, ?_⟩
  rcases h2 with (h2 | h2) | h2
  · exact ⟨3, by decide, by rw [h2]; rfl⟩
  · exact ⟨7, by decide, by rw [h2]; rfl⟩
  · exact ⟨32, by decide, by rw [h2]; rfl⟩
theorem and_mask (a : Int) (n : Nat) (hn : n ≤ 32) : ((BitVec.ofInt 64 a &&& BitVec.ofInt 64 (2 ^ n - 1)).toNat : Int) = a % 2 ^ n := by
  have hb : (BitVec.ofInt 64 (2 ^ n - 1)).toNat = 2 ^ n - 1 := by
    have h1 : (2 : Int) ^ n ≤ 2 ^ 32 := by
      have := Nat.pow_le_pow_right (show 0 < 2 by decide) hn
      exact_mod_cast this
    have h0 : (1 : Int) ≤ 2 ^ n := Int.pow_pos (by decide)
    rw [BitVec.toNat_ofInt]
    have h2 : ((2 : Int) ^ n - 1) % ((2 ^ 64 : Nat) : Int) = 2 ^ n - 1 := Int.emod_eq_of_lt (by omega) (by omega)
    rw [h2]
    have h3 : ((2 : Int) ^ n) = ((2 ^ n : Nat) : Int) := by simp
    rw [h3]
    have : 0 < 2 ^ n := Nat.pow_pos (by decide)
    omega
  rw [BitVec.toNat_and, hb, Nat.and_two_pow_sub_one_eq_mod, BitVec.toNat_ofInt]
  have h4 : (0 : Int) ≤ a % ((2 ^ 64 : Nat) : Int) := Int.emod_nonneg _ (by decide)
  have h5 : (((a % ((2 ^ 64 : Nat) : Int)).toNat % 2 ^ n : Nat) : Int) = (a % ((2 ^ 64 : Nat) : Int)) % ((2 ^ n : Nat) : Int) := by
    rw [Int.natCast_emod, Int.toNat_of_nonneg h4]
  rw [h5]
  have h6 : ((2 ^ n : Nat) : Int) ∣ ((2 ^ 64 : Nat) : Int) := by
    have : (2 ^ n : Nat) ∣ 2 ^ 64 := Nat.pow_dvd_pow 2 (by omega)
    exact Int.ofNat_dvd.2 this
  rw [Int.emod_emod_of_dvd _ h6]
  simp
theorem run_arith {P : Program} {w : World} {op : BinOp} {h : Nat} {k : IntKind} {a b : Int} {v : Value} {c : List Prop}
    (e : arith op h k a b = some (v, c)) (hc : All c) (t : Nat) (k' : IntKind) (hkk : (op = .shl ∨ op = .shr) ∨ k = k') :
    (binOp op t (.int k a) (.int k' b)).run P w = .ok v w := by
  unfold arith at e
  split at e
  case h_31 =>
    obtain rfl : k = k' := by simpa using hkk
    rw [cond_eq_ite] at e
    split at e
    · rename_i hm
      simp only [Option.some.injEq, Prod.mk.injEq] at e
      obtain ⟨rfl, rfl⟩ := e
      obtain ⟨hk, m, hm1, rfl⟩ := isMask_spec hm
      have hp : (1 : Int) ≤ 2 ^ m := Int.pow_pos (by decide)
      have hp2 : (2 : Int) ^ m ≤ 2 ^ 32 := by
        have := Nat.pow_le_pow_right (show 0 < 2 by decide) hm1
        exact_mod_cast this
      have h0 : 0 ≤ a % 2 ^ m := Int.emod_nonneg _ (by omega)
      have h1 : a % 2 ^ m < 2 ^ m := Int.emod_lt_of_pos _ (by omega)
      have hin : InK k (a % 2 ^ m) := by
        rcases hk with rfl | rfl <;> simp only [InK, IntKind.min, IntKind.max, IntKind.signed, IntKind.bits] <;> omega
      have hbits : k.bits = 64 := by rcases hk with rfl | rfl <;> rfl
      have key : (Op.intBits .and k a (2 ^ m - 1)).run P w = .ok (.int k (a % 2 ^ m)) w := by
        have e1 := and_mask a m hm1
        rcases hk with rfl | rfl
        · show Result.ok (Value.int .i64 (IntKind.i64.wrap _)) w = _
          rw [show (((BitVec.ofInt (IntKind.bits .i64) a &&& BitVec.ofInt (IntKind.bits .i64) (2 ^ m - 1)).toNat : Nat) : Int) = a % 2 ^ m from e1, wrap_in hin]
        · show Result.ok (Value.int .u64 (IntKind.u64.wrap _)) w = _
          rw [show (((BitVec.ofInt (IntKind.bits .u64) a &&& BitVec.ofInt (IntKind.bits .u64) (2 ^ m - 1)).toNat : Nat) : Int) = a % 2 ^ m from e1, wrap_in hin]
      rw [show (2 : Int) ^ m - 1 + 1 = 2 ^ m from by omega]
      simpa [binOp] using key
    · cases e
  all_goals (simp only [Option.some.injEq, Prod.mk.injEq, reduceCtorEq] at e; try (obtain ⟨rfl, rfl⟩ := e; simp only [All, and_true] at hc))
  case h_7 =>
    obtain rfl : k = k' := by simpa using hkk
    obtain ⟨h1, h2, h3⟩ := hc
    have hne : ¬ b = 0 := by omega
    have hq : a.tdiv b = a / b := Int.tdiv_eq_ediv_of_nonneg h1
    have h0 : 0 ≤ a / b := Int.ediv_nonneg h1 (by omega)
    have h4 : a / b ≤ a := Int.ediv_le_self b h1
    have hin : InK k (a / b) := ⟨by cases k <;> simp [IntKind.min, IntKind.signed, IntKind.bits] <;> omega, by omega⟩
    simp [binOp, Op.intDiv, go_sem, hne, hq, wrap_in hin]
  case h_8 =>
    obtain rfl : k = k' := by simpa using hkk
    obtain ⟨h1, h3⟩ := hc
    have hne : ¬ b = 0 := by omega
    have hq : a.tmod b = a % b := Int.tmod_eq_emod_of_nonneg h1
    simp [binOp, Op.intDiv, go_sem, hne, hq]
  case h_29 =>
    obtain ⟨h1, h2, h3⟩ := hc
    have hne : ¬ b < 0 := by omega
    have hm : min b.toNat k.bits = b.toNat := by omega
    simp only [binOp, Op.shift, if_neg hne, hm, wrap_in h3]
    rfl
  case h_30 =>
    obtain ⟨h1, h2⟩ := hc
    have hne : ¬ b < 0 := by omega
    have hm : min b.toNat k.bits = b.toNat := by omega
    have hp : (0 : Int) ≤ 2 ^ b.toNat := Int.le_of_lt (Int.pow_pos (by decide))
    simp only [binOp, Op.shift, if_neg hne, hm, Int.fdiv_eq_ediv_of_nonneg a hp]
    rfl
  all_goals
    obtain rfl : k = k' := by simpa using hkk
    simp [binOp, Op.intArith, Op.intDiv, Op.intCmp, go_sem, wrap_in, hc]
  all_goals first | rfl | (simp [bne, BEq.beq]) | skip
theorem cellsL_eq (v : Value) : cellsL v = v.cells.toList := by cases v <;> rfl
theorem putL_eq (vs : List Value) : ∀ (l : List Value) (n : Nat), (putL l n vs).toArray = vs.zipIdx.foldl (fun cs (c, j) => cs.setIfInBounds (n + j) c) l.toArray := by
  have aux : ∀ (vs : List Value) (l : List Value) (n k : Nat), (putL l (n + k) vs).toArray = (vs.zipIdx k).foldl (fun cs (c, j) => cs.setIfInBounds (n + j) c) l.toArray := by
    intro vs
    induction vs with
    | nil => intro l n k; rfl
    | cons v vs ih =>
      intro l n k
      simp only [putL, List.zipIdx_cons, List.foldl_cons, setL_eq]
      rw [show n + k + 1 = n + (k + 1) from by omega, ih]
      simp
  intro l n
  exact aux vs l n 0
theorem fillL_eq (place : Nat → Option (Nat × Nat)) : ∀ (parts : List (Nat × Value)) (l l' : List Value), fillL place l parts = some l' → Instr.fill place l.toArray parts = some l'.toArray := by
  intro parts
  induction parts with
  | nil => intro l l' h; simp only [fillL, Option.some.injEq] at h; subst h; rfl
  | cons p parts ih =>
    intro l l' h
    obtain ⟨i, v⟩ := p
    simp only [fillL] at h
    unfold Instr.fill
    cases hp : place i with
    | none => rw [hp] at h; cases h
    | some q =>
      obtain ⟨off, size⟩ := q
      rw [hp] at h
      simp only [cond_eq_ite, Bool.and_eq_true, cellsL_eq] at h
      split at h
      · rename_i hc
        obtain ⟨h1, h2⟩ := hc
        have h1 := Nat.eq_of_beq_eq_true h1
        have h2 := Nat.le_of_ble_eq_true h2
        simp only [Array.length_toList] at h1 h2
        have h3 : ¬ (v.cells.size ≠ size || decide (off + v.cells.size > l.toArray.size)) = true := by simp; omega
        have := ih _ _ h
        rw [putL_eq] at this
        simp only [h1, List.size_toArray]
        rw [if_neg (by simp; omega)]
        rw [← Array.foldl_toList]
        simpa using this
      · cases h
theorem lookAll_eq {α : Type} {L : Fs} {ρ : Operand → Value} (hρ : Sees ρ L) : ∀ (xs : List Operand) (k : List Value → Option α) (r : α), lookAll L xs k = some r → k (xs.map ρ) = some r := by
  intro xs
  induction xs with
  | nil => intro k r h; exact h
  | cons x xs ih =>
    intro k r h
    simp only [lookAll] at h
    split at h
    · rename_i v hv
      have := ih _ _ h
      simpa [hρ _ _ hv] using this
    · cases h
theorem lookParts_eq {α : Type} {L : Fs} {ρ : Operand → Value} (hρ : Sees ρ L) : ∀ (xs : List (Nat × Operand)) (k : List (Nat × Value) → Option α) (r : α), lookParts L xs k = some r → k (xs.map fun p => (p.1, ρ p.2)) = some r := by
  intro xs
  induction xs with
  | nil => intro k r h; exact h
  | cons x xs ih =>
    intro k r h
    obtain ⟨i, x⟩ := x
    simp only [lookParts] at h
    split at h
    · rename_i v hv
      have := ih _ _ h
      simpa [hρ _ _ hv] using this
    · cases h
theorem placesOf_eq {P : Program} {T : List (Nat × TI)} (hT : Tab P T) : ∀ (F : List Field) (pl : List (Nat × Nat)), placesOf T (F.map fun f => (f.offset, f.type)) = some pl → F.mapM (fun f => (P.info? f.type).map fun i => (f.offset, i.size)) = some pl := by
  intro F
  induction F with
  | nil => intro pl h; simp only [List.map_nil, placesOf, Option.some.injEq] at h; subst h; rfl
  | cons f F ih =>
    intro pl h
    simp only [List.map_cons, placesOf] at h
    split at h
    · rename_i ti r h1 h2
      simp only [Option.some.injEq] at h
      subst h
      obtain ⟨d, j, _, _, h3, h4, _⟩ := (hT.get h1).out
      simp [List.mapM_cons, h3, h4, ih r h2]
    · cases h
theorem run_guardless {P : Program} {w : World} {op : BinOp} {t : Nat} {x y : Operand} {a b : Value} (h1 : ¬ (a = .nilIface ∧ b = .nilIface)) (h2 : ∀ xs ys, ¬ (a = .agg xs ∧ b = .agg ys)) :
    (eqGuard op t x y a b).run P w = .ok () w := by
  unfold eqGuard
  cases op <;> simp <;> (split <;> simp_all)

theorem equal_succ : ∃ n, ∀ t x y, Op.equal t x y = Op.equalIn (n + 1) t x y := ⟨9999, fun _ _ _ => rfl⟩
theorem run_equal_pn {P : Program} {w : World} {t e : Nat} (hu : P.underlying t = some (.pointer e)) (q : Option Addr) : (Op.equal t (.pointer none) (.pointer q)).run P w = .ok q.isNone w := by
  obtain ⟨n, hn⟩ := equal_succ
  rw [hn, Op.equalIn]
  simp [run_underlying hu]
theorem run_equal_np {P : Program} {w : World} {t e : Nat} (hu : P.underlying t = some (.pointer e)) (q : Addr) : (Op.equal t (.pointer (some q)) (.pointer none)).run P w = .ok false w := by
  obtain ⟨n, hn⟩ := equal_succ
  rw [hn, Op.equalIn]
  simp [run_underlying hu]
theorem run_equal_bool {P : Program} {w : World} {t : Nat} (hu : P.underlying t = some .bool) (p q : Bool) : (Op.equal t (.bool p) (.bool q)).run P w = .ok (p == q) w := by
  obtain ⟨n, hn⟩ := equal_succ
  rw [hn, Op.equalIn]
  simp [run_underlying hu]
theorem run_equal_slice {P : Program} {w : World} {t e : Nat} (hu : P.underlying t = some (.slice e)) (q : Option Addr) (n m n' m' : Nat) : (Op.equal t (.slice q n m) (.slice none n' m')).run P w = .ok q.isNone w := by
  obtain ⟨k, hn⟩ := equal_succ
  rw [hn, Op.equalIn]
  cases q <;> simp [run_underlying hu]
theorem binOp_eql_ptr (t : Nat) (p q : Option Addr) : binOp .eql t (.pointer p) (.pointer q) = (do Pure.pure (.bool (← Op.equal t (.pointer p) (.pointer q)))) := rfl
theorem binOp_neq_ptr (t : Nat) (p q : Option Addr) : binOp .neq t (.pointer p) (.pointer q) = (do Pure.pure (.bool (!(← Op.equal t (.pointer p) (.pointer q))))) := rfl
theorem binOp_eql_bool (t : Nat) (p q : Bool) : binOp .eql t (.bool p) (.bool q) = (do Pure.pure (.bool (← Op.equal t (.bool p) (.bool q)))) := rfl
theorem binOp_neq_bool (t : Nat) (p q : Bool) : binOp .neq t (.bool p) (.bool q) = (do Pure.pure (.bool (!(← Op.equal t (.bool p) (.bool q))))) := rfl
theorem binOp_eql_slice (t : Nat) (p q : Option Addr) (n m n' m' : Nat) : binOp .eql t (.slice p n m) (.slice q n' m') = (do Pure.pure (.bool (← Op.equal t (.slice p n m) (.slice q n' m')))) := rfl
theorem binOp_neq_slice (t : Nat) (p q : Option Addr) (n m n' m' : Nat) : binOp .neq t (.slice p n m) (.slice q n' m') = (do Pure.pure (.bool (!(← Op.equal t (.slice p n m) (.slice q n' m'))))) := rfl
theorem run_binEv {P : Program} {T : List (Nat × TI)} (hT : Tab P T) {w : World} {op : BinOp} {h t : Nat} {a b v : Value} {c : List Prop} (ho : binOk T t a = true)
    (e : binEv op h a b = some (v, c)) (hc : All c) (x y : Operand) : (do eqGuard op t x y a b; binOp op t a b : Sem Value).run P w = .ok v w := by
  unfold binEv at e
  split at e
  · rename_i k n k' m
    have hg : (eqGuard op t x y (.int k n) (.int k' m)).run P w = .ok () w := run_guardless (by simp) (by simp)
    simp only [Sem.run_bind, hg, Result.andThen_ok]
    split at e
    · exact run_arith e hc t k' (.inl (.inl rfl))
    · exact run_arith e hc t k' (.inl (.inr rfl))
    · rw [cond_eq_ite] at e
      split at e
      · rename_i hk
        exact run_arith e hc t k' (.inr (by simpa using hk))
      · cases e
  · have hg : (eqGuard op t x y (.pointer none) (.pointer none)).run P w = .ok () w := run_guardless (by simp) (by simp)
    simp only [Sem.run_bind, hg, Result.andThen_ok]
    simp only [binOk] at ho
    split at ho <;> rename_i ht
    · have hu := (hT.get ht).ptr
      split at e <;> simp only [Option.some.injEq, Prod.mk.injEq, reduceCtorEq] at e <;> obtain ⟨rfl, rfl⟩ := e <;>
        simp [binOp_eql_ptr, binOp_neq_ptr, run_equal_pn hu]
    · cases ho
  · rename_i p
    have hg : (eqGuard op t x y (.pointer (some p)) (.pointer none)).run P w = .ok () w := run_guardless (by simp) (by simp)
    simp only [Sem.run_bind, hg, Result.andThen_ok]
    simp only [binOk] at ho
    split at ho <;> rename_i ht
    · have hu := (hT.get ht).ptr
      split at e <;> simp only [Option.some.injEq, Prod.mk.injEq, reduceCtorEq] at e <;> obtain ⟨rfl, rfl⟩ := e <;>
        simp [binOp_eql_ptr, binOp_neq_ptr, run_equal_np hu]
    · cases ho
  · rename_i p q
    have hg : (eqGuard op t x y (.bool p) (.bool q)).run P w = .ok () w := run_guardless (by simp) (by simp)
    simp only [Sem.run_bind, hg, Result.andThen_ok]
    simp only [binOk] at ho
    split at ho <;> rename_i ht
    · have hu := (hT.get ht).bool
      split at e <;> simp only [Option.some.injEq, Prod.mk.injEq, reduceCtorEq] at e <;> obtain ⟨rfl, rfl⟩ := e <;> simp only [All, and_true] at hc <;>
        simp [binOp_eql_bool, binOp_neq_bool, run_equal_bool hu, hc]
    · cases ho
  · rename_i p n m n' m'
    have hg : (eqGuard op t x y (.slice p n m) (.slice none n' m')).run P w = .ok () w := run_guardless (by simp) (by simp)
    simp only [Sem.run_bind, hg, Result.andThen_ok]
    simp only [binOk] at ho
    split at ho <;> rename_i ht
    · have hu := (hT.get ht).slice
      split at e <;> simp only [Option.some.injEq, Prod.mk.injEq, reduceCtorEq] at e <;> obtain ⟨rfl, rfl⟩ := e <;>
        simp [binOp_eql_slice, binOp_neq_slice, run_equal_slice hu]
    · cases ho
  · cases e
theorem part_agg {P : Program} {t : Nat} {i : TI} (h : TyIs P t i) (hk : isAggK i.kind = true) (cs : Array Value) (off : Nat) (w : World) :
    (part t cs off).run P w = .ok (.agg (cutL cs.toList off i.size).toArray) w := by
  have e : (cutL cs.toList off i.size).toArray = cs.extract off (off + i.size) := by
    apply Array.ext'
    simp [cutL, List.take_drop]
  simp [part, h.run_agg, hk, h.run_size, e]
theorem part_one {P : Program} {t : Nat} {i : TI} (h : TyIs P t i) (hk : isAggK i.kind = false) (cs : Array Value) (off : Nat) {v : Value} (hv : cs.toList[off]? = some v) (w : World) :
    (part t cs off).run P w = .ok v w := by
  have hv' : cs[off]? = some v := by simpa using hv
  simp [part, h.run_agg, hk, hv']

theorem pv_run {P : Program} {T : List (Nat × TI)} (hT : Tab P T) {L : Fs} {ρ : Operand → Value} (hρ : Sees ρ L) {h : Nat} {op : Op} {v : Value} {c : List Prop}
    (e : pv T L h op = some (v, c)) (hc : All c) {o : Oper} (ho : o.op = op) (w : World) : (execOp ρ o).run P w = .ok (.value v) w := by
  cases op <;> simp only [pv, reduceCtorEq] at e
  case move x =>
    split at e <;> simp only [Option.some.injEq, Prod.mk.injEq, reduceCtorEq] at e; obtain ⟨rfl, rfl⟩ := e; rename_i hx
    simp [execOp, ho, hρ _ _ hx]
  case assign x =>
    split at e <;> simp only [Option.some.injEq, Prod.mk.injEq, reduceCtorEq] at e; obtain ⟨rfl, rfl⟩ := e; rename_i hx
    simp [execOp, ho, hρ _ _ hx]
  case pick c' a b =>
    split at e
    · rename_i hx
      split at e <;> simp only [Option.some.injEq, Prod.mk.injEq, reduceCtorEq] at e; obtain ⟨rfl, rfl⟩ := e; rename_i hy
      simp [execOp, ho, hρ _ _ hx, hρ _ _ hy, asBool]
    · rename_i hx
      split at e <;> simp only [Option.some.injEq, Prod.mk.injEq, reduceCtorEq] at e; obtain ⟨rfl, rfl⟩ := e; rename_i hy
      simp [execOp, ho, hρ _ _ hx, hρ _ _ hy, asBool]
    · cases e
  case build t ps =>
    split at e
    · rename_i fs s b z ht
      split at e
      · rename_i pl hpl
        have h1 := lookParts_eq hρ _ _ _ e
        split at h1
        · rename_i l hl
          rw [force_eq] at h1
          simp only [Option.some.injEq, Prod.mk.injEq] at h1
          obtain ⟨rfl, rfl⟩ := h1
          obtain ⟨F, hF, rfl⟩ := (hT.get ht).struct
          have h2 := placesOf_eq hT _ _ hpl
          have h3 := fillL_eq _ _ _ _ hl
          obtain ⟨d, j, hd, hk, hj, h4, h5, h6⟩ := (hT.get ht).out
          have hb : P.built t (ps.map fun p => (p.1, ρ p.2)).toList = some l.toArray := by
            simp only [Program.built, hj, hF, h6, h2]
            simpa [cellsL_eq] using h3
          simp only [execOp, ho]
          have := run_build (P := P) w t (ps.map fun p => (p.1, ρ p.2)) _ hb
          simp [this]
        · cases h1
      · cases e
    · rename_i n el s b z ht
      split at e
      · rename_i ei hei
        have h1 := lookParts_eq hρ _ _ _ e
        split at h1
        · rename_i l hl
          rw [force_eq] at h1
          simp only [Option.some.injEq, Prod.mk.injEq] at h1
          obtain ⟨rfl, rfl⟩ := h1
          have hF := (hT.get ht).arr
          have h3 := fillL_eq _ _ _ _ hl
          obtain ⟨d, j, hd, hk, hj, h4, h5, h6⟩ := (hT.get ht).out
          obtain ⟨d', j', hd', hk', hj', h4', h5', h6'⟩ := (hT.get hei).out
          have hb : P.built t (ps.map fun p => (p.1, ρ p.2)).toList = some l.toArray := by
            simp only [Program.built, hj, hF, h6, hj', h4']
            simpa [cellsL_eq] using h3
          simp only [execOp, ho]
          have := run_build (P := P) w t (ps.map fun p => (p.1, ρ p.2)) _ hb
          simp [this]
        · cases h1
      · cases e
    · cases e
  case nilCheck x =>
    split at e <;> simp only [Option.some.injEq, Prod.mk.injEq, reduceCtorEq] at e <;> obtain ⟨rfl, rfl⟩ := e <;> rename_i hx <;> simp [execOp, ho, hρ _ _ hx]
  case binOp op t x y yt =>
    split at e
    · rename_i a b hx hy
      rw [cond_eq_ite] at e
      split at e
      · rename_i hb
        have := run_binEv (w := w) hT hb e hc x y
        simp only [execOp, ho, hρ _ _ hx, hρ _ _ hy]
        rw [Sem.run_bind, this]; rfl
      · cases e
    · cases e
  case unOp u t x =>
    cases u <;> simp only [reduceCtorEq] at e
    · split at e
      · rename_i k n hx
        split at e <;> simp only [Option.some.injEq, Prod.mk.injEq] at e <;> obtain ⟨rfl, rfl⟩ := e <;> simp only [All, and_true] at hc <;>
          simp [execOp, ho, hρ _ _ hx, Op.unary, Op.intArith, wrap_in, hc]
      · cases e
    · split at e <;> simp only [Option.some.injEq, Prod.mk.injEq, reduceCtorEq] at e; obtain ⟨rfl, rfl⟩ := e; rename_i hx
      simp [execOp, ho, hρ _ _ hx, Op.unary]
  case convert src dst x =>
    split at e
    · rename_i hx hd hs
      have hu := (hT.get hd).int
      have hu' := (hT.get hs).int
      split at e <;> simp only [Option.some.injEq, Prod.mk.injEq] at e <;> obtain ⟨rfl, rfl⟩ := e <;> simp only [All, and_true] at hc <;>
        simp [execOp, ho, hρ _ _ hx, convert, run_underlying hu, run_underlying hu', Conv.intToInt, wrap_in, hc]
    · cases e
  case makeFunc fn first captured =>
    have h1 := lookAll_eq hρ _ _ _ e
    have h2 := lookAll_eq hρ _ _ _ h1
    simp only [Option.some.injEq, Prod.mk.injEq] at h2
    obtain ⟨rfl, rfl⟩ := h2
    have a1 : first.map ρ = (first.toList.map ρ).toArray := by apply Array.ext'; simp
    have a2 : captured.map ρ = (captured.toList.map ρ).toArray := by apply Array.ext'; simp
    simp only [execOp, ho, a1, a2]
    rfl
  case fieldAddr s x i =>
    split at e
    · rename_i b off fs _ _ _ hx hs
      split at e
      · rename_i o' t hi
        split at e <;> simp only [Option.some.injEq, Prod.mk.injEq, reduceCtorEq] at e; obtain ⟨rfl, rfl⟩ := e
        rename_i k sz by' z ht
        obtain ⟨F, hd, rfl⟩ := (hT.get hs).struct
        have hsz := (hT.get ht).run_size
        simp at hi
        obtain ⟨f, hf, rfl, rfl⟩ := hi
        simp [execOp, ho, hρ _ _ hx, Instr.fieldAt, run_underlying hd, hf, fieldPlace, hsz, Instr.sureAddr, add_off]
      · cases e
    · cases e
  case field s x i =>
    split at e
    · rename_i cs fs _ _ _ hx hs
      split at e
      · rename_i o' t hi
        split at e
        · rename_i ti ht
          obtain ⟨F, hd, rfl⟩ := (hT.get hs).struct
          simp at hi
          obtain ⟨f, hf, rfl, rfl⟩ := hi
          rw [cond_eq_ite] at e
          split at e
          · rename_i hk
            rw [force_eq] at e
            simp only [Option.some.injEq, Prod.mk.injEq] at e
            obtain ⟨rfl, rfl⟩ := e
            simp [execOp, ho, hρ _ _ hx, Instr.field, run_underlying hd, hf, asAgg, part_agg (hT.get ht) hk]
          · rename_i hk
            split at e <;> simp only [Option.some.injEq, Prod.mk.injEq, reduceCtorEq] at e; obtain ⟨rfl, rfl⟩ := e
            rename_i hv
            simp [execOp, ho, hρ _ _ hx, Instr.field, run_underlying hd, hf, asAgg, part_one (hT.get ht) (by simpa using hk) _ _ hv]
        · cases e
      · cases e
    · cases e
  case indexAddr t x ix =>
    split at e
    · rename_i b off k i n el _ _ _ hx hix ht
      split at e <;> simp only [Option.some.injEq, Prod.mk.injEq, reduceCtorEq] at e; obtain ⟨rfl, rfl⟩ := e
      rename_i ei hei
      simp only [All, and_true] at hc
      simp [execOp, ho, hρ _ _ hx, hρ _ _ hix, Instr.indexAt, run_underlying (hT.get ht).arr, asIntOf, Instr.sureAddr, hc, (hT.get hei).run_size, add_off]
    · rename_i b off n cap k i el _ _ _ hx hix ht
      split at e <;> simp only [Option.some.injEq, Prod.mk.injEq, reduceCtorEq] at e; obtain ⟨rfl, rfl⟩ := e
      rename_i ei hei
      simp only [All, and_true] at hc
      simp [execOp, ho, hρ _ _ hx, hρ _ _ hix, Instr.indexAt, run_underlying (hT.get ht).slice, asIntOf, hc, (hT.get hei).run_size, add_off]
    · cases e
  case extract t i =>
    split at e
    · rename_i vs hx
      split at e <;> simp only [Option.some.injEq, Prod.mk.injEq, reduceCtorEq] at e; obtain ⟨rfl, rfl⟩ := e
      rename_i v' hv
      have hv' : vs[i]? = some v' := by simpa using hv
      simp [execOp, ho, hρ _ _ hx, Instr.extract, hv']
    · cases e
  case call cl =>
    obtain ⟨callee, args, argTypes⟩ := cl
    simp only at e
    have a0 : ∀ n, args.toList = n → args = n.toArray := fun n hn => by subst hn; simp
    have a1 : ∀ n, argTypes.toList = n → argTypes = n.toArray := fun n hn => by subst hn; simp
    split at e
    · split at e
      · rename_i x t hx ht
        have hx := a0 _ hx
        have ht := a1 _ ht
        subst hx; subst ht
        split at e <;> simp only [Option.some.injEq, Prod.mk.injEq, reduceCtorEq] at e <;> obtain ⟨rfl, rfl⟩ := e <;> rename_i hx ht
        · simp [execOp, ho, resolve, invoke, builtin, Builtin.len_, hρ _ _ hx, run_underlying (hT.get ht).slice, goInt]
        · simp [execOp, ho, resolve, invoke, builtin, Builtin.len_, run_underlying (hT.get ht).arr, goInt]
        · simp [execOp, ho, resolve, invoke, builtin, Builtin.len_, hρ _ _ hx, run_underlying (hT.get ht).str, goInt]
      · cases e
    · split at e
      · rename_i x y hx
        have hx := a0 _ hx
        subst hx
        split at e <;> simp only [Option.some.injEq, Prod.mk.injEq, reduceCtorEq] at e; obtain ⟨rfl, rfl⟩ := e; rename_i k a k' b hx hy
        have : (if b > a then b else a) = max a b := by omega
        simp [execOp, ho, resolve, invoke, builtin, Builtin.max_, Builtin.max2, hρ _ _ hx, hρ _ _ hy, ← this]
      · cases e
    · split at e
      · rename_i x y hx
        have hx := a0 _ hx
        subst hx
        split at e <;> simp only [Option.some.injEq, Prod.mk.injEq, reduceCtorEq] at e; obtain ⟨rfl, rfl⟩ := e; rename_i k a k' b hx hy
        have : (if b < a then b else a) = min a b := by omega
        simp [execOp, ho, resolve, invoke, builtin, Builtin.min_, Builtin.min2, hρ _ _ hx, hρ _ _ hy, ← this]
      · cases e
    · cases e
end Go.Sep
