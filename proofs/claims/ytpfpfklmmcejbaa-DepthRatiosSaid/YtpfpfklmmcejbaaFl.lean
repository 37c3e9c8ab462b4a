/- Plain facts on float64 words: order, sign, NaN: what chapter 9's ratios lean on. No program in sight. -/
import Derived.Laws.FloatArith
import Derived.RowKit
namespace Go.Proofs.Ytpfpfklmmcejbaa
open Go.RowKit Ieee

abbrev D64 : Ieee.Format := FloatKind.f64.format
theorem sw64 : D64.signWeight = 9223372036854775808 := by decide
theorem bi64 : D64.binade = 4503599627370496 := by decide
theorem ir64 : D64.infRung = 9218868437227405312 := by decide
theorem lp64 : D64.leastPlace = -1074 := by decide

theorem cmp_lt (a b : Int) : compare a b = .lt ↔ a < b := by
  simp only [compare, compareOfLessAndEq]; split
  · simp [*]
  · split <;> simp [*]
theorem cmp_eq (a b : Int) : compare a b = .eq ↔ a = b := by
  simp only [compare, compareOfLessAndEq]; split
  · simp; omega
  · split <;> simp [*]
theorem cmp_gt (a b : Int) : compare a b = .gt ↔ b < a := by
  simp only [compare, compareOfLessAndEq]; split
  · simp; omega
  · split
    · simp; omega
    · simp; omega

/-- What a word reads as, by its bits. -/
theorem read64 (x : Nat) : D64.read x = (if x % 9223372036854775808 < 4503599627370496 then .number (x / 9223372036854775808 % 2 == 1) (x % 9223372036854775808) (-1074)
    else if x % 9223372036854775808 < 9218868437227405312 then .number (x / 9223372036854775808 % 2 == 1) (4503599627370496 + x % 9223372036854775808 % 4503599627370496) (-1074 + (x % 9223372036854775808 / 4503599627370496 - 1 : Nat))
    else if x % 9223372036854775808 = 9218868437227405312 then .infinity (x / 9223372036854775808 % 2 == 1) else .nan (x / 9223372036854775808 % 2 == 1) (x % 9223372036854775808 - 9218868437227405312)) := by
  unfold Ieee.Format.read
  rw [sw64, bi64, ir64, lp64]

def negB (x : Nat) : Bool := x / 9223372036854775808 % 2 == 1
inductive Kind64 (x : Nat) : Datum → Prop
  | num (m : Nat) (e : Int) (he : -1074 ≤ e) (hm : m = 0 ↔ x % 9223372036854775808 = 0) : Kind64 x (.number (negB x) m e)
  | inf (h : x % 9223372036854775808 = 9218868437227405312) : Kind64 x (.infinity (negB x))
  | nan (t : Nat) : Kind64 x (.nan (negB x) t)
theorem kind64 (x : Nat) : Kind64 x (D64.read x) := by
  rw [read64]
  split
  · exact .num _ _ (by omega) Iff.rfl
  · split
    · exact .num _ _ (by omega) (by omega)
    · split
      · rename_i h; exact .inf h
      · exact .nan _

theorem ord_def (x y : Nat) : D64.order x y = (D64.read x).order (D64.read y) := rfl

def scaled (s : Bool) (m : Nat) (e : Int) : Int := signed s m (e + 1074).toNat
theorem signed_mul (s : Bool) (m a k : Nat) : signed s m (a + k) = signed s m a * 2 ^ k := by
  unfold signed
  have h : (m <<< (a + k) : Nat) = (m <<< a) * 2 ^ k := by
    rw [Nat.shiftLeft_eq, Nat.shiftLeft_eq, Nat.pow_add, Nat.mul_assoc]
  rw [h]
  split
  · rw [Int.natCast_mul, Int.neg_mul]; simp
  · rw [Int.natCast_mul]; simp
theorem ord_num (s t : Bool) (m n : Nat) (i j : Int) (hi : -1074 ≤ i) (hj : -1074 ≤ j) :
    Datum.order (.number s m i) (.number t n j) = some (compare (scaled s m i) (scaled t n j)) := by
  show some (compare (signed s m (i - min i j).toNat) (signed t n (j - min i j).toNat)) = _
  have e1 : (i + 1074).toNat = (i - min i j).toNat + (min i j + 1074).toNat := by omega
  have e2 : (j + 1074).toNat = (j - min i j).toNat + (min i j + 1074).toNat := by omega
  unfold scaled
  rw [e1, e2, signed_mul, signed_mul]
  generalize signed s m _ = a
  generalize signed t n _ = b
  have hp : (0 : Int) < 2 ^ (min i j + 1074).toNat := Int.pow_pos (by omega)
  generalize (2 : Int) ^ (min i j + 1074).toNat = p at hp
  congr 1
  rcases Int.lt_trichotomy a b with h | h | h
  · rw [(cmp_lt a b).2 h, (cmp_lt _ _).2 (Int.mul_lt_mul_of_pos_right h hp)]
  · subst h; rw [(cmp_eq a a).2 rfl, (cmp_eq _ _).2 rfl]
  · rw [(cmp_gt a b).2 h, (cmp_gt _ _).2 (Int.mul_lt_mul_of_pos_right h hp)]

theorem ord_self (x : Nat) : D64.order x x = some .eq ∨ (D64.order x x = none ∧ ∃ s t, D64.read x = .nan s t) := by
  rw [ord_def]
  cases hr : D64.read x with
  | number s m i =>
    refine .inl ?_
    show some (compare (signed s m (i - min i i).toNat) (signed s m (i - min i i).toNat)) = _
    rw [(cmp_eq _ _).2 rfl]
  | infinity s => cases s <;> exact .inl rfl
  | nan s t => exact .inr ⟨rfl, s, t, rfl⟩
theorem read_zero : D64.read 0 = .number false 0 (-1074) := by decide
theorem scaled_zero (i : Int) : scaled false 0 i = 0 := by simp [scaled, signed]
theorem scaled_pos (m : Nat) (i : Int) : 0 ≤ scaled false m i ∧ (scaled false m i = 0 ↔ m = 0) := by
  unfold scaled signed
  have hp : 0 < 2 ^ (i + 1074).toNat := Nat.two_pow_pos _
  simp only [Nat.shiftLeft_eq, Bool.false_eq_true, if_false]
  refine ⟨by omega, ?_⟩
  constructor
  · intro h
    have h' : m * 2 ^ (i + 1074).toNat = 0 := by omega
    rcases Nat.mul_eq_zero.1 h' with h | h
    · exact h
    · omega
  · rintro rfl; simp
theorem scaled_neg (m : Nat) (i : Int) : scaled true m i = - scaled false m i := by simp [scaled, signed]
/-- A word against zero. -/
theorem ord_zero (x : Nat) (h : D64.order x x = some .eq) :
    D64.order x 0 = some (if x % 9223372036854775808 = 0 then .eq else if negB x then .lt else .gt) := by
  rcases ord_self x with _ | ⟨h', _⟩
  · rw [ord_def, read_zero]
    have hk := kind64 x
    generalize hd : D64.read x = d at hk
    cases hk with
    | num m e he hm =>
      rw [ord_num _ _ _ _ _ _ he (by omega), scaled_zero]
      have hp := scaled_pos m e
      by_cases h0 : x % 9223372036854775808 = 0
      · rw [if_pos h0]
        have hm0 := hm.2 h0
        subst hm0
        cases negB x
        · rw [scaled_zero, (cmp_eq _ _).2 rfl]
        · rw [scaled_neg, scaled_zero, (cmp_eq _ _).2 (by omega)]
      · rw [if_neg h0]
        have hm0 : m ≠ 0 := fun e => h0 (hm.1 e)
        have hm1 : scaled false m e ≠ 0 := fun e => hm0 (hp.2.1 e)
        cases negB x
        · rw [(cmp_gt _ _).2 (by omega)]; rfl
        · rw [scaled_neg, (cmp_lt _ _).2 (by omega)]; rfl
    | inf h0 =>
      rw [if_neg (by omega)]
      cases negB x <;> rfl
    | nan t =>
      rw [ord_def, hd] at h
      cases h
  · rw [h'] at h; cases h
/-- Words that are good: numbers or the infinity, without a sign. -/
def Good (x : Nat) : Prop := D64.order x x = some .eq ∧ negB x = false
/-- The rank of a good word: how it stands to others. -/
def under (d d' : Datum) : Prop := match d, d' with
  | .number _ m e, .number _ n f => scaled false m e < scaled false n f
  | .number .., .infinity _ => True
  | _, _ => False
theorem less_under (x y : Nat) (hx : Good x) (hy : Good y) : D64.order x y = some .lt ↔ under (D64.read x) (D64.read y) := by
  obtain ⟨hx1, hx2⟩ := hx
  obtain ⟨hy1, hy2⟩ := hy
  rw [ord_def] at hx1 hy1 ⊢
  have kx := kind64 x
  have ky := kind64 y
  generalize D64.read x = d at *
  generalize D64.read y = d' at *
  cases kx with
  | num m e he hm =>
    cases ky with
    | num n f hf hn => rw [hx2, hy2, ord_num _ _ _ _ _ _ he hf]; simp [under, cmp_lt]
    | inf h => rw [hx2, hy2]; simp [Datum.order, under]
    | nan t => cases hy1
  | inf h =>
    cases ky with
    | num n f hf hn => rw [hx2, hy2]; simp [Datum.order, under]
    | inf h' => rw [hx2, hy2]; simp [Datum.order, under]
    | nan t => cases hy1
  | nan t => cases hx1
theorem under_trans (a b c : Datum) (h : under a b) (h' : under b c) : under a c := by
  cases a <;> cases b <;> cases c <;> simp_all [under] <;> omega
theorem under_irrefl (a : Datum) : ¬ under a a := by
  cases a <;> simp [under]
/-- What comes of a sum, a product, a quotient is no NaN. -/
theorem read_word (neg : Bool) (r : Nat) (h : r ≤ 9218868437227405312) (s : Bool) (t : Nat) : D64.read (D64.word neg r) ≠ .nan s t := by
  rw [read64]
  unfold Ieee.Format.word
  rw [sw64]
  cases neg
  · simp only [Bool.false_eq_true, if_false]
    have e : r % 9223372036854775808 = r := Nat.mod_eq_of_lt (by omega)
    rw [e]
    split
    · simp
    · split
      · simp
      · rw [if_pos (by omega)]; simp
  · simp only [if_true]
    have e : (9223372036854775808 + r) % 9223372036854775808 = r := by omega
    rw [e]
    split
    · simp
    · split
      · simp
      · rw [if_pos (by omega)]; simp
theorem read_write (d : Datum) (hd : ∀ s t, d ≠ .nan s t) (s : Bool) (t : Nat) : D64.read (D64.write d) ≠ .nan s t := by
  cases d with
  | number n m e =>
    show D64.read (D64.nearest n m e) ≠ _
    unfold Ieee.Format.nearest
    split
    · exact read_word _ _ (by omega) s t
    · refine read_word _ _ ?_ s t
      rw [ir64]
      exact Nat.min_le_right _ _
  | infinity n => exact read_word _ _ (by rw [ir64]; omega) s t
  | nan s' t' => exact absurd rfl (hd s' t')
theorem quot_num (k : Nat) (a b d : Datum) (h : a.quotient k b = some d) (s : Bool) (t : Nat) : d ≠ .nan s t := by
  cases a with
  | nan => cases b <;> cases h
  | infinity s => cases b with
    | nan => cases h
    | infinity => cases h
    | number => cases h; simp
  | number s m i => cases b with
    | nan => cases h
    | infinity => cases h; simp
    | number t n j =>
      simp only [Datum.quotient] at h
      by_cases h0 : n = 0
      · rw [if_pos h0] at h
        by_cases h1 : m = 0
        · rw [if_pos h1] at h; cases h
        · rw [if_neg h1] at h; cases h; simp
      · rw [if_neg h0] at h; cases h; simp
theorem div_num (x y r : Nat) (h : D64.div x y = some r) : D64.order r r = some .eq := by
  unfold Ieee.Format.div at h
  rcases ord_self r with h1 | ⟨_, s, t, h1⟩
  · exact h1
  · cases hq : (D64.read x).quotient (D64.fractionBits + 2) (D64.read y) with
    | none => rw [hq] at h; cases h
    | some d =>
      rw [hq] at h
      injection h with h
      subst h
      exact absurd h1 (read_write d (quot_num _ _ _ _ hq) s t)
theorem nan_cut (a : Nat) : D64.order (a % 2 * 2 ^ 63 + 9218868437227405312 + 1 + a / 2 % (2 ^ 52 - 1)) (a % 2 * 2 ^ 63 + 9218868437227405312 + 1 + a / 2 % (2 ^ 52 - 1)) = none := by
  have h : ∃ s t, D64.read (a % 2 * 2 ^ 63 + 9218868437227405312 + 1 + a / 2 % (2 ^ 52 - 1)) = .nan s t := by
    have h1 : a / 2 % (2 ^ 52 - 1) < 2 ^ 52 - 1 := Nat.mod_lt _ (by omega)
    generalize a / 2 % (2 ^ 52 - 1) = c at h1
    have h2 : a % 2 < 2 := Nat.mod_lt _ (by omega)
    generalize a % 2 = b at h2
    rw [read64]
    have e : (b * 2 ^ 63 + 9218868437227405312 + 1 + c) % 9223372036854775808 = 9218868437227405312 + 1 + c := by omega
    rw [e, if_neg (by omega), if_neg (by omega), if_neg (by omega)]
    exact ⟨_, _, rfl⟩
  obtain ⟨s, t, h⟩ := h
  rw [ord_def, h]
  rfl
end Go.Proofs.Ytpfpfklmmcejbaa
