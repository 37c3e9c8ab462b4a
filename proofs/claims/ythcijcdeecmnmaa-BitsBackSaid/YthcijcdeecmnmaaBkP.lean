/- BitsBack: plain laws: what was packed in pieces is taken in the same pieces. -/
import Derived.Test.YthcijcdeecmnmaaBitP
namespace Go.Proofs.Ythcijcdeecmnmaa
set_option linter.unusedVariables false

theorem i64_mask (x : Int) (n : Nat) (hn : n ≤ 62) : bits .and .i64 x (2 ^ n - 1) = x % 2 ^ n := by
  have hp : (2 : Nat) ^ n ≤ 2 ^ 62 := Nat.pow_le_pow_right (by omega) hn
  have hp1 : 1 ≤ (2 : Nat) ^ n := Nat.one_le_two_pow
  have e : ((2 : Int) ^ n - 1) = ((2 ^ n - 1 : Nat) : Int) := by rw [Int.natCast_sub hp1]; simp
  show IntKind.i64.wrap ((BitVec.ofInt 64 x &&& BitVec.ofInt 64 (2 ^ n - 1)).toNat : Int) = _
  have e2 : (BitVec.ofInt 64 ((2 : Int) ^ n - 1)).toNat = 2 ^ n - 1 := by
    rw [e, BitVec.toNat_ofInt]
    omega
  rw [BitVec.toNat_and, e2, Nat.and_two_pow_sub_one_eq_mod, BitVec.toNat_ofInt]
  have h1 : (0 : Int) ≤ x % (2 ^ 64 : Nat) := Int.emod_nonneg _ (by omega)
  have h3 : (2 : Int) ^ n ∣ ((2 ^ 64 : Nat) : Int) := by
    refine ⟨2 ^ (64 - n), ?_⟩
    rw [← Int.pow_add, show n + (64 - n) = 64 by omega]
    rfl
  have h4 : x % ((2 ^ 64 : Nat) : Int) % 2 ^ n = x % 2 ^ n := Int.emod_emod_of_dvd x h3
  have h5 : (((x % ((2 ^ 64 : Nat) : Int)).toNat % 2 ^ n : Nat) : Int) = x % 2 ^ n := by
    rw [← h4, Int.natCast_emod, Int.toNat_of_nonneg h1]
    simp
  have h6 : (x % ((2 ^ 64 : Nat) : Int)).toNat % 2 ^ n < 2 ^ n := Nat.mod_lt _ (by omega)
  rw [IntWalk.i64_in _ (by omega), h5]
/-- The bits of the first j numbers, k i bits of d i. -/
def allB (hi : Bool) (d : Nat → Int) (k : Nat → Nat) : Nat → List Nat
  | 0 => []
  | j + 1 => allB hi d k j ++ numB hi (d j) (k j)
/-- Where the j-th begins. -/
def posK (k : Nat → Nat) : Nat → Nat
  | 0 => 0
  | j + 1 => posK k j + k j
theorem allB_len (hi : Bool) (d : Nat → Int) (k : Nat → Nat) (j : Nat) : (allB hi d k j).length = posK k j := by
  induction j with
  | zero => rfl
  | succ j ih => rw [allB, posK, List.length_append, ih, numB_len]
theorem allB_lt (hi : Bool) (d : Nat → Int) (k : Nat → Nat) (j : Nat) : ∀ x ∈ allB hi d k j, x < 2 := by
  induction j with
  | zero => intro x hx; cases hx
  | succ j ih =>
    intro x hx
    exact (List.mem_append.1 hx).elim (ih x) (numB_lt _ _ _ x)
theorem posK_le (k : Nat → Nat) {i j : Nat} (h : i ≤ j) : posK k i ≤ posK k j := by
  induction j with
  | zero => obtain rfl : i = 0 := by omega
            exact Nat.le_refl _
  | succ j ih =>
    rw [posK]
    by_cases h2 : i ≤ j
    · have := ih h2
      omega
    · obtain rfl : i = j + 1 := by omega
      rw [posK]
      exact Nat.le_refl _
theorem posK_bound (k : Nat → Nat) (hk : ∀ i, k i ≤ 24) (j : Nat) : posK k j ≤ 24 * j := by
  induction j with
  | zero => simp [posK]
  | succ j ih =>
    have := hk j
    rw [posK]
    omega
theorem allB_get (hi : Bool) (d : Nat → Int) (k : Nat → Nat) (m j i : Nat) (hj : j < m) (h : i < k j) : (allB hi d k m)[posK k j + i]? = some (bitX (d j) (if hi = true then k j - 1 - i else i)) := by
  induction m with
  | zero => omega
  | succ m ih =>
    rw [allB]
    by_cases h2 : j < m
    · have h3 := posK_le k (show j + 1 ≤ m by omega)
      rw [posK] at h3
      rw [List.getElem?_append_left (by rw [allB_len]; omega)]
      exact ih h2
    · obtain rfl : j = m := by omega
      rw [List.getElem?_append_right (by rw [allB_len]; omega), allB_len, show posK k j + i - posK k j = i by omega, numB_get _ _ _ _ h]
/-- The bytes of all. -/
def byB (hi : Bool) (d : Nat → Int) (k : Nat → Nat) (m : Nat) (i : Nat) : Nat := ((pack hi (allB hi d k m)).1[i]?).getD 0
theorem byB_lt (hi : Bool) (d : Nat → Int) (k : Nat → Nat) (m : Nat) (i : Nat) : byB hi d k m i < 256 := getD_lt (pack_lt' _ _ (allB_lt _ _ _ _)) i
theorem byB_bit (hi : Bool) (d : Nat → Int) (k : Nat → Nat) (m j i : Nat) (hj : j < m) (h : i < k j) : bitB hi (byB hi d k m) (posK k j + i) = bitX (d j) (if hi = true then k j - 1 - i else i) := by
  have h1 := allB_get hi d k m j i hj h
  obtain ⟨h2, h3⟩ := List.getElem?_eq_some_iff.1 h1
  have h4 := pack_get hi _ (allB_lt hi d k m) (posK k j + i) h2
  unfold byB
  rw [h4, h3]
theorem take_back (hi : Bool) (d : Nat → Int) (k : Nat → Nat) (m j : Nat) (hj : j < m) : ((takeB hi (byB hi d k m) (posK k j) (k j) : Nat) : Int) = d j % 2 ^ (k j) := by
  unfold takeB
  cases hi with
  | true =>
    rw [if_pos rfl]
    refine takeH_num' _ _ _ _ (fun i hi' => ?_)
    have := byB_bit true d k m j i hj hi'
    simpa [bitB] using this
  | false =>
    rw [if_neg (by decide)]
    refine takeL_num _ _ _ _ (fun i hi' => ?_)
    have := byB_bit false d k m j i hj hi'
    simpa [bitB] using this
end Go.Proofs.Ythcijcdeecmnmaa
