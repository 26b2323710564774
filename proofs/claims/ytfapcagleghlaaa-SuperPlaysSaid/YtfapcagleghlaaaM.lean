/- Plain numbers by limbs: values, sums, products, differences. -/
import Derived.Test.YtfapcagleghlaaaB
set_option linter.all false
namespace Go.Proofs.Try
open Go Go.Sep

def val : List Int → Int
  | [] => 0
  | d :: ds => d + 4294967296 * val ds
def Limbs (ds : List Int) : Prop := ∀ d ∈ ds, 0 ≤ d ∧ d ≤ 4294967295
def Canon (ds : List Int) : Prop := ∀ d, ds.getLast? = some d → d ≠ 0
theorem Limbs.cons {d : Int} {ds : List Int} : Limbs (d :: ds) ↔ (0 ≤ d ∧ d ≤ 4294967295) ∧ Limbs ds := by simp [Limbs]
theorem Limbs.nil : Limbs [] := fun _ h => by cases h
theorem val_nonneg : ∀ {ds : List Int}, Limbs ds → 0 ≤ val ds
  | [], _ => by simp [val]
  | d :: ds, h => by have h := Limbs.cons.1 h; have := val_nonneg h.2; simp only [val]; omega
theorem Limbs.take {ds : List Int} (h : Limbs ds) (n : Nat) : Limbs (ds.take n) := fun d hd => h d (List.mem_of_mem_take hd)
theorem Limbs.drop {ds : List Int} (h : Limbs ds) (n : Nat) : Limbs (ds.drop n) := fun d hd => h d (List.mem_of_mem_drop hd)
theorem Limbs.append {a b : List Int} (h : Limbs a) (k : Limbs b) : Limbs (a ++ b) := fun d hd => (List.mem_append.1 hd).elim (h d) (k d)
theorem val_zeros : ∀ (n : Nat), val (List.replicate n 0) = 0
  | 0 => rfl
  | n + 1 => by rw [List.replicate_succ]; simp [val, val_zeros n]
theorem val_append_zeros (ds : List Int) (n : Nat) : val (ds ++ List.replicate n 0) = val ds := by
  induction ds with
  | nil => simpa [val] using val_zeros n
  | cons d ds ih => simp [val, ih]
theorem val_take_zero (ds : List Int) : ∀ (n : Nat), (∀ j, n ≤ j → ∀ d, ds[j]? = some d → d = 0) → val (ds.take n) = val ds := by
  induction ds with
  | nil => intro n _; simp
  | cons d ds ih =>
    intro n h
    cases n with
    | zero =>
      have h0 := h 0 (Nat.le_refl _) d rfl
      have := ih 0 (fun j hj e he => h (j + 1) (Nat.zero_le _) e (by simpa using he))
      simp only [List.take_zero, val] at this ⊢
      omega
    | succ n =>
      have := ih n (fun j hj e he => h (j + 1) (by omega) e (by simpa using he))
      simp only [List.take_succ_cons, val, this]
/-- A canonical number that is not empty is at least so great. -/
theorem canon_pos : ∀ {ds : List Int}, Limbs ds → Canon ds → ds ≠ [] → 1 ≤ val ds
  | [], _, _, h => absurd rfl h
  | [d], hl, hc, _ => by
    have := (hl d (by simp)).1
    have := hc d rfl
    simp only [val]; omega
  | d :: e :: ds, hl, hc, _ => by
    have hl := Limbs.cons.1 hl
    have := canon_pos (ds := e :: ds) hl.2 (fun x hx => hc x (by rw [List.getLast?_cons_cons]; exact hx)) (by simp)
    simp only [val] at this ⊢
    omega
theorem canon_nil_iff {ds : List Int} (hl : Limbs ds) (hc : Canon ds) : ds = [] ↔ val ds = 0 := by
  constructor
  · rintro rfl; rfl
  · intro h
    rcases ds with _ | ⟨d, ds⟩
    · rfl
    · have := canon_pos hl hc (by simp); omega
theorem canon_tail {d : Int} {ds : List Int} (h : Canon (d :: ds)) : Canon ds := fun x hx => by
  cases ds with
  | nil => cases hx
  | cons e ds => exact h x (by rw [List.getLast?_cons_cons]; exact hx)
/-- The shorter one is less. -/
theorem val_lt_of_len : ∀ {a b : List Int}, Limbs a → Limbs b → Canon b → a.length < b.length → val a < val b
  | [], b, _, hb, hc, h => by have := canon_pos hb hc (by rintro rfl; simp at h); simp only [val]; omega
  | d :: a, [], _, _, _, h => by simp at h
  | d :: a, e :: b, ha, hb, hc, h => by
    have ha := Limbs.cons.1 ha
    have hb' := Limbs.cons.1 hb
    have := val_lt_of_len ha.2 hb'.2 (canon_tail hc) (by simpa using h)
    simp only [val]; omega
/-- Two of one length, alike from place k on: the limb ahead decides. -/
theorem val_split (a : List Int) (k : Nat) (h : k < a.length) : val a = val (a.take k) + 4294967296 ^ k * (a[k] + 4294967296 * val (a.drop (k + 1))) := by
  induction a generalizing k with
  | nil => simp at h
  | cons d a ih =>
    cases k with
    | zero => simp [val]
    | succ k =>
      have := ih k (by simpa using h)
      simp only [List.take_succ_cons, val, List.getElem_cons_succ, List.drop_succ_cons]
      rw [this, Int.pow_succ]
      grind
theorem val_lt_pow : ∀ {a : List Int}, Limbs a → val a < 4294967296 ^ a.length
  | [], _ => by simp [val]
  | d :: a, h => by
    have h := Limbs.cons.1 h
    have := val_lt_pow h.2
    simp only [val, List.length_cons, Int.pow_succ]
    omega
theorem val_cmp_at (a b : List Int) (ha : Limbs a) (hb : Limbs b) (k : Nat) (hka : k < a.length) (hkb : k < b.length) (hd : a.drop (k + 1) = b.drop (k + 1)) (hlt : a[k] < b[k]) : val a < val b := by
  rw [val_split a k hka, val_split b k hkb, hd]
  have h1 := val_lt_pow (ha.take k)
  have h2 := val_nonneg (hb.take k)
  rw [List.length_take, Nat.min_eq_left (by omega)] at h1
  have hp : (0 : Int) < 4294967296 ^ k := Int.pow_pos (by decide)
  generalize val (b.drop (k + 1)) = t at *
  generalize (4294967296 : Int) ^ k = p at *
  have h3 : p * (a[k] + 4294967296 * t) + p ≤ p * (b[k] + 4294967296 * t) := by
    have : p * (a[k] + 4294967296 * t) + p = p * (a[k] + 1 + 4294967296 * t) := by grind
    rw [this]
    exact Int.mul_le_mul_of_nonneg_left (by omega) (by omega)
  omega

def hd (l : List Int) : Int := l.headD 0
/-- Sums, limb by limb. -/
def addc : Nat → Int → List Int → List Int → List Int
  | 0, _, _, _ => []
  | m + 1, c, a, b => ((hd a + hd b + c) % 4294967296) :: addc m ((hd a + hd b + c) / 4294967296) a.tail b.tail
theorem hd_range {a : List Int} (h : Limbs a) : 0 ≤ hd a ∧ hd a ≤ 4294967295 := by
  cases a with
  | nil => simp [hd]
  | cons d a => exact (Limbs.cons.1 h).1
theorem val_hd_tail (a : List Int) : val a = hd a + 4294967296 * val a.tail := by cases a <;> simp [val, hd]
theorem Limbs.tail {a : List Int} (h : Limbs a) : Limbs a.tail := fun d hd => h d (List.mem_of_mem_tail hd)
theorem addc_length : ∀ (m : Nat) (c : Int) (a b : List Int), (addc m c a b).length = m
  | 0, _, _, _ => rfl
  | m + 1, c, a, b => by simp [addc, addc_length m]
theorem addc_limbs : ∀ (m : Nat) (c : Int) (a b : List Int), Limbs (addc m c a b)
  | 0, _, _, _ => Limbs.nil
  | m + 1, c, a, b => by simp only [addc, Limbs.cons]; exact ⟨by omega, addc_limbs m _ _ _⟩
theorem addc_val : ∀ (m : Nat) (c : Int) (a b : List Int), Limbs a → Limbs b → 0 ≤ c → c ≤ 1 → a.length < m → b.length < m → val (addc m c a b) = val a + val b + c
  | 0, _, _, _, _, _, _, _, h, _ => by simp at h
  | m + 1, c, a, b, ha, hb, h0, h1, hla, hlb => by
    have a1 := hd_range ha
    have b1 := hd_range hb
    have hva := val_hd_tail a
    have hvb := val_hd_tail b
    simp only [addc, val]
    by_cases hm : m = 0
    · subst hm
      have e1 : a = [] := List.eq_nil_of_length_eq_zero (by omega)
      have e2 : b = [] := List.eq_nil_of_length_eq_zero (by omega)
      subst e1; subst e2
      simp [addc, val, hd] at *
      omega
    · have hta : a.tail.length < m := by rw [List.length_tail]; omega
      have htb : b.tail.length < m := by rw [List.length_tail]; omega
      rw [addc_val m _ _ _ ha.tail hb.tail (by omega) (by omega) hta htb]
      omega
/-- A limb times a number, and another one, limb by limb. -/
def macc : Nat → Int → Int → List Int → List Int → List Int
  | 0, _, _, _, _ => []
  | m + 1, c, x, b, o => ((x * hd b + hd o + c) % 4294967296) :: macc m ((x * hd b + hd o + c) / 4294967296) x b.tail o.tail
theorem macc_length : ∀ (m : Nat) (c x : Int) (b o : List Int), (macc m c x b o).length = m
  | 0, _, _, _, _ => rfl
  | m + 1, c, x, b, o => by simp [macc, macc_length m]
theorem macc_limbs : ∀ (m : Nat) (c x : Int) (b o : List Int), Limbs (macc m c x b o)
  | 0, _, _, _, _ => Limbs.nil
  | m + 1, c, x, b, o => by simp only [macc, Limbs.cons]; exact ⟨by omega, macc_limbs m _ _ _ _⟩
theorem limb_prod {x y : Int} (hx : 0 ≤ x) (hx' : x ≤ 4294967295) (hy : 0 ≤ y) (hy' : y ≤ 4294967295) : 0 ≤ x * y ∧ x * y ≤ 18446744065119617025 := mul_lt32 hx hx' hy hy'
theorem macc_zeros : ∀ (z : Nat) (x : Int), macc z 0 x [] (List.replicate z 0) = List.replicate z 0
  | 0, _ => rfl
  | z + 1, x => by rw [List.replicate_succ]; simp [macc, hd, macc_zeros z x]
theorem macc_spec : ∀ (b o : List Int) (c x : Int) (z : Nat), b.length = o.length → Limbs b → Limbs o → 0 ≤ c → c ≤ 4294967295 → 0 ≤ x → x ≤ 4294967295 →
    ∃ r, macc (o.length + 1 + z) c x b (o ++ List.replicate (1 + z) 0) = r ++ List.replicate z 0 ∧ r.length = o.length + 1 ∧ Limbs r ∧ val r = x * val b + val o + c
  | [], [], c, x, z, _, _, _, h0, h1, _, _ => by
    refine ⟨[c], ?_, rfl, by simp [Limbs]; omega, by simp [val]⟩
    have e : (1 + z) = z + 1 := by omega
    simp only [List.length_nil, List.nil_append, e, Nat.zero_add, List.replicate_succ, macc, hd, List.headD_nil, List.headD_cons, List.tail_nil, List.tail_cons]
    have h2 : (x * 0 + 0 + c) % 4294967296 = c := by omega
    have h3 : (x * 0 + 0 + c) / 4294967296 = 0 := by omega
    rw [h2, h3, macc_zeros]; rfl
  | d :: b, e :: o, c, x, z, hl, hb, ho, h0, h1, hx, hx' => by
    have hb := Limbs.cons.1 hb
    have ho := Limbs.cons.1 ho
    have hp := limb_prod hx hx' hb.1.1 hb.1.2
    obtain ⟨r, e1, e2, e3, e4⟩ := macc_spec b o ((x * d + e + c) / 4294967296) x z (by simpa using hl) hb.2 ho.2 (by omega) (by omega) hx hx'
    refine ⟨((x * d + e + c) % 4294967296) :: r, ?_, by simp [e2], Limbs.cons.2 ⟨by omega, e3⟩, ?_⟩
    · have e5 : (e :: o).length + 1 + z = (o.length + 1 + z) + 1 := by simp; omega
      rw [e5]
      simp only [List.cons_append, macc, hd, List.headD_cons, List.tail_cons, e1]
    · simp only [val, e4]
      have : x * (d + 4294967296 * val b) = x * d + 4294967296 * (x * val b) := by grind
      rw [this]
      generalize x * val b = t at *
      generalize x * d = s at *
      omega
/-- Products, limb by limb. -/
def mulr : List Int → List Int → List Int → List Int
  | [], _, o => o
  | x :: a, b, o => hd (macc o.length 0 x b o) :: mulr a b (macc o.length 0 x b o).tail
theorem mulr_spec : ∀ (a b o : List Int) (z : Nat), b.length = o.length → Limbs a → Limbs b → Limbs o →
    Limbs (mulr a b (o ++ List.replicate (a.length + z) 0)) ∧ (mulr a b (o ++ List.replicate (a.length + z) 0)).length = o.length + a.length + z ∧ val (mulr a b (o ++ List.replicate (a.length + z) 0)) = val a * val b + val o
  | [], b, o, z, hl, ha, hb, ho => by
    simp only [mulr, List.length_nil, Nat.zero_add, val, Int.zero_mul]
    refine ⟨ho.append (fun d hd => by rw [List.mem_replicate] at hd; omega), by simp, by rw [val_append_zeros]; omega⟩
  | x :: a, b, o, z, hl, ha, hb, ho => by
    have ha := Limbs.cons.1 ha
    obtain ⟨r, e1, e2, e3, e4⟩ := macc_spec b o 0 x (a.length + z) hl hb ho (by omega) (by omega) ha.1.1 ha.1.2
    have e5 : (o ++ List.replicate ((x :: a).length + z) 0).length = o.length + 1 + (a.length + z) := by simp; omega
    have e6 : (x :: a).length + z = 1 + (a.length + z) := by simp; omega
    simp only [mulr, e5]
    rw [e6, e1]
    cases r with
    | nil => simp at e2
    | cons r0 r =>
      have e3 := Limbs.cons.1 e3
      simp only [List.cons_append, hd, List.headD_cons, List.tail_cons]
      obtain ⟨f1, f2, f3⟩ := mulr_spec a b r z (by simp at e2; omega) ha.2 hb e3.2
      refine ⟨Limbs.cons.2 ⟨e3.1, f1⟩, by simp [f2] at *; omega, ?_⟩
      simp only [val, f3]
      simp only [val] at e4
      have : (x + 4294967296 * val a) * val b = x * val b + 4294967296 * (val a * val b) := by grind
      rw [this]
      generalize val a * val b = s at *
      generalize x * val b = t at *
      omega
/-- Differences, limb by limb. -/
def subc : Int → List Int → List Int → List Int
  | _, [], _ => []
  | c, d :: a, b => ((d - hd b - c) % 4294967296) :: subc (if d - hd b - c < 0 then 1 else 0) a b.tail
theorem subc_length : ∀ (c : Int) (a b : List Int), (subc c a b).length = a.length
  | _, [], _ => rfl
  | c, d :: a, b => by simp [subc, subc_length _ a]
theorem subc_limbs : ∀ (c : Int) (a b : List Int), Limbs (subc c a b)
  | _, [], _ => Limbs.nil
  | c, d :: a, b => by simp only [subc, Limbs.cons]; exact ⟨by omega, subc_limbs _ _ _⟩
theorem subc_val : ∀ (c : Int) (a b : List Int), Limbs a → Limbs b → 0 ≤ c → c ≤ 1 → b.length ≤ a.length → val b + c ≤ val a → val (subc c a b) = val a - val b - c
  | c, [], b, _, hb, h0, h1, hl, hle => by
    have : b = [] := List.eq_nil_of_length_eq_zero (by simpa using hl)
    subst this
    simp [subc, val] at *; omega
  | c, d :: a, b, ha, hb, h0, h1, hl, hle => by
    have ha := Limbs.cons.1 ha
    have b1 := hd_range hb
    have hvb := val_hd_tail b
    have ht : b.tail.length ≤ a.length := by rw [List.length_tail]; simp at hl; omega
    simp only [val] at hle
    simp only [subc, val]
    by_cases hn : d - hd b - c < 0
    · rw [if_pos hn, subc_val 1 a b.tail ha.2 hb.tail (by omega) (by omega) ht (by omega)]; omega
    · rw [if_neg hn, subc_val 0 a b.tail ha.2 hb.tail (by omega) (by omega) ht (by omega)]; omega
end Go.Proofs.Try
