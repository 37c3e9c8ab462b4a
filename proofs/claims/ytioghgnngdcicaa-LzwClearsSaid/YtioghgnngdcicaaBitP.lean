/- Plain laws of bits: what is put bit by bit, and read again. -/
import Derived.Test.YtioghgnngdcicaaPutH
namespace Go.Proofs.Ytioghgnngdcicaa
set_option linter.unusedVariables false

/-- A bit put behind what was put. -/
def posB (hi : Bool) (r : Nat) : Nat := if hi = true then r else 7 - r
def addB (hi : Bool) (s : List Nat × Nat) (v : Nat) : List Nat × Nat := (orLast (roomO s.1 s.2) (v * 2 ^ posB hi (roomF s.2)), roomF s.2)
/-- Bits, packed. -/
def pack (hi : Bool) (l : List Nat) : List Nat × Nat := l.foldl (addB hi) ([], 0)
theorem pack_append (hi : Bool) (l m : List Nat) : pack hi (l ++ m) = m.foldl (addB hi) (pack hi l) := by simp [pack]
theorem pack_snoc (hi : Bool) (l : List Nat) (v : Nat) : pack hi (l ++ [v]) = addB hi (pack hi l) v := by simp [pack]
/-- A number's bits in the order in which they are put. -/
def numB (hi : Bool) (x : Int) (n : Nat) : List Nat := (List.range n).map fun i => bitX x (if hi = true then n - 1 - i else i)
theorem numB_len (hi : Bool) (x : Int) (n : Nat) : (numB hi x n).length = n := by simp [numB]
theorem numB_lt (hi : Bool) (x : Int) (n : Nat) : ∀ v ∈ numB hi x n, v < 2 := by
  intro v hv
  obtain ⟨i, _, rfl⟩ := List.mem_map.1 hv
  exact bitX_lt _ _
theorem numB_get (hi : Bool) (x : Int) (n i : Nat) (h : i < n) : (numB hi x n)[i]? = some (bitX x (if hi = true then n - 1 - i else i)) := by simp [numB, h]
theorem putsL_fold (x : Int) (o : List Nat) (fr k : Nat) : putsL x o fr k = (numB false x k).foldl (addB false) (o, fr) := by
  induction k with
  | zero => rfl
  | succ k ih =>
    have e : numB false x (k + 1) = numB false x k ++ [bitX x k] := by simp [numB, List.range_succ]
    rw [putsL, ih, e, List.foldl_append]
    rfl
theorem putsH_fold' (x : Int) (n : Nat) (o : List Nat) (fr k : Nat) : putsH x n o fr k = ((List.range k).map fun i => bitX x (n - 1 - i)).foldl (addB true) (o, fr) := by
  induction k with
  | zero => rfl
  | succ k ih =>
    rw [putsH, ih, List.range_succ, List.map_append, List.foldl_append]
    rfl
theorem putsH_fold (x : Int) (o : List Nat) (fr n : Nat) : putsH x n o fr n = (numB true x n).foldl (addB true) (o, fr) := putsH_fold' x n o fr n
theorem putsL_pack (l : List Nat) (x : Int) (n : Nat) : putsL x (pack false l).1 (pack false l).2 n = pack false (l ++ numB false x n) := by rw [putsL_fold, pack_append]
theorem putsH_pack (l : List Nat) (x : Int) (n : Nat) : putsH x n (pack true l).1 (pack true l).2 n = pack true (l ++ numB true x n) := by rw [putsH_fold, pack_append]
theorem orLast_len (o : List Nat) (v : Nat) : (orLast o v).length = o.length := by simp [orLast]
theorem pack_shape (hi : Bool) (l : List Nat) (n : Nat) (hn : n ≤ l.length) : (pack hi (l.take n)).1.length = (n + 7) / 8 ∧ (pack hi (l.take n)).2 = (8 - n % 8) % 8 := by
  induction n with
  | zero => simp [pack]
  | succ n ih =>
    obtain ⟨h1, h2⟩ := ih (by omega)
    rw [List.take_add_one, List.getElem?_eq_getElem (by omega), Option.toList_some, pack_snoc]
    simp only [addB, orLast_len, roomO, roomF, h2]
    by_cases h : n % 8 = 0
    · rw [if_pos (by omega), if_pos (by omega)]
      simp only [List.length_append, List.length_singleton, h1]
      omega
    · rw [if_neg (by omega), if_neg (by omega), h1]
      omega
theorem pack_len (hi : Bool) (l : List Nat) : (pack hi l).1.length = (l.length + 7) / 8 := by
  have h := (pack_shape hi l l.length (Nat.le_refl _)).1
  rwa [List.take_length] at h
theorem pack_room (hi : Bool) (l : List Nat) (n : Nat) (hn : n ≤ l.length) : roomF (pack hi (l.take n)).2 = 7 - n % 8 ∧ (roomO (pack hi (l.take n)).1 (pack hi (l.take n)).2).length = n / 8 + 1 := by
  obtain ⟨h1, h2⟩ := pack_shape hi l n hn
  simp only [roomO, roomF, h2]
  by_cases h : n % 8 = 0
  · rw [if_pos (by omega), if_pos (by omega)]
    simp only [List.length_append, List.length_singleton, h1]
    omega
  · rw [if_neg (by omega), if_neg (by omega), h1]
    omega
theorem pack_step (hi : Bool) (l : List Nat) (n : Nat) (hn : n < l.length) :
    (pack hi (l.take (n + 1))).1 = (roomO (pack hi (l.take n)).1 (pack hi (l.take n)).2).set (n / 8) (((roomO (pack hi (l.take n)).1 (pack hi (l.take n)).2)[n / 8]?).getD 0 ||| l[n] * 2 ^ posB hi (7 - n % 8)) := by
  obtain ⟨h1, h2⟩ := pack_room hi l n (by omega)
  rw [List.take_add_one, List.getElem?_eq_getElem (by omega), Option.toList_some, pack_snoc]
  simp only [addB, orLast, h1, h2, Nat.add_sub_cancel]
/-- The bytes of the first i bits, and noughts behind them. -/
def outR (hi : Bool) (l : List Nat) (i : Nat) : List Nat := (pack hi (l.take i)).1 ++ List.replicate ((l.length + 7) / 8 - (i + 7) / 8) 0
theorem outR_room (hi : Bool) (l : List Nat) (i : Nat) (hi' : i < l.length) : outR hi l i = roomO (pack hi (l.take i)).1 (pack hi (l.take i)).2 ++ List.replicate ((l.length + 7) / 8 - (i + 8) / 8) 0 := by
  obtain ⟨h1, h2⟩ := pack_shape hi l i (by omega)
  unfold outR roomO
  by_cases h : i % 8 = 0
  · rw [if_pos (by omega), List.append_assoc]
    congr 1
    rw [show (l.length + 7) / 8 - (i + 7) / 8 = ((l.length + 7) / 8 - (i + 8) / 8) + 1 by omega, List.replicate_succ]
    rfl
  · rw [if_neg (by omega), show (i + 8) / 8 = (i + 7) / 8 by omega]
theorem outR_len (hi : Bool) (l : List Nat) (i : Nat) (h : i ≤ l.length) : (outR hi l i).length = (l.length + 7) / 8 := by
  unfold outR
  rw [List.length_append, (pack_shape hi l i h).1, List.length_replicate]
  omega
theorem outR_step (hi : Bool) (l : List Nat) (i : Nat) (h : i < l.length) : outR hi l (i + 1) = (outR hi l i).set (i / 8) (((outR hi l i)[i / 8]?).getD 0 ||| l[i] * 2 ^ posB hi (7 - i % 8)) := by
  obtain ⟨h1, h2⟩ := pack_room hi l i (by omega)
  have e := outR_room hi l i h
  rw [e, List.set_append_left _ _ (by omega), List.getElem?_append_left (by omega)]
  unfold outR
  rw [pack_step hi l i h]
theorem outR_zero (hi : Bool) (l : List Nat) : outR hi l 0 = List.replicate ((l.length + 7) / 8) 0 := by simp [outR, pack]
theorem outR_all (hi : Bool) (l : List Nat) : outR hi l l.length = (pack hi l).1 := by simp [outR]
theorem mul_pow_testBit (v q p : Nat) (hv : v < 2) : (v * 2 ^ q).testBit p = (decide (p = q) && decide (v = 1)) := by
  have h : v = 0 ∨ v = 1 := by omega
  rcases h with rfl | rfl
  · simp
  · rw [Nat.one_mul, Nat.testBit_two_pow]
    simp [eq_comm]
theorem roomO_get (o : List Nat) (fr j : Nat) : ((roomO o fr)[j]?).getD 0 = (o[j]?).getD 0 := by
  unfold roomO
  split
  · by_cases h : j < o.length
    · rw [List.getElem?_append_left h]
    · by_cases h2 : j = o.length
      · subst h2
        simp
      · rw [List.getElem?_eq_none (by simp; omega), List.getElem?_eq_none (by omega)]
  · rfl
theorem posB_inj {hi : Bool} {a b : Nat} (ha : a < 8) (hb : b < 8) : posB hi (7 - a) = posB hi (7 - b) ↔ a = b := by
  unfold posB
  split <;> omega
theorem pack_bit (hi : Bool) (l : List Nat) (hl : ∀ v ∈ l, v < 2) (n : Nat) (hn : n ≤ l.length) (k : Nat) :
    (((pack hi (l.take n)).1[k / 8]?).getD 0).testBit (posB hi (7 - k % 8)) = decide (k < n ∧ l[k]? = some 1) := by
  induction n with
  | zero => simp [pack]
  | succ n ih =>
    have ih := ih (by omega)
    have hv : l[n] < 2 := hl _ (List.getElem_mem _)
    have hlen := (pack_room hi l n (by omega)).2
    rw [pack_step hi l n (by omega)]
    by_cases hk : k / 8 = n / 8
    · rw [hk, List.getElem?_set_self (by omega), Option.getD_some, Nat.testBit_or, roomO_get, ← hk, ih, mul_pow_testBit _ _ _ hv]
      by_cases he : k = n
      · subst he
        have h0 : k < l.length := by omega
        simp [h0]
      · have h0 : ¬ posB hi (7 - k % 8) = posB hi (7 - n % 8) := by
          rw [posB_inj (by omega) (by omega)]
          omega
        have h1 : (k < n ∧ l[k]? = some 1) ↔ (k < n + 1 ∧ l[k]? = some 1) := ⟨fun h => ⟨by omega, h.2⟩, fun h => ⟨by omega, h.2⟩⟩
        simp only [h0, decide_false, Bool.false_and, Bool.or_false, h1]
    · rw [List.getElem?_set_ne (Ne.symm hk), roomO_get, ih]
      have h1 : (k < n ∧ l[k]? = some 1) ↔ (k < n + 1 ∧ l[k]? = some 1) := ⟨fun h => ⟨by omega, h.2⟩, fun h => ⟨by
        have := h.1
        have : k ≠ n := fun e => hk (by rw [e])
        omega, h.2⟩⟩
      simp only [h1]
theorem bitB_test (hi : Bool) (b : Nat → Nat) (k : Nat) : bitB hi b k = ((b (k / 8)).testBit (posB hi (7 - k % 8))).toNat := by
  have h : posB hi (7 - k % 8) = if hi = true then 7 - k % 8 else k % 8 := by unfold posB; split <;> omega
  rw [h, Nat.testBit_eq_decide_div_mod_eq]
  unfold bitB bitH bitL
  split
  · generalize b (k / 8) / 2 ^ (7 - k % 8) = y
    rcases Nat.mod_two_eq_zero_or_one y with h | h <;> simp [h]
  · generalize b (k / 8) / 2 ^ (k % 8) = y
    rcases Nat.mod_two_eq_zero_or_one y with h | h <;> simp [h]
/-- The bits of what was packed. -/
theorem pack_get (hi : Bool) (l : List Nat) (hl : ∀ v ∈ l, v < 2) (k : Nat) (hk : k < l.length) : bitB hi (fun i => ((pack hi l).1[i]?).getD 0) k = l[k] := by
  have h := pack_bit hi l hl l.length (Nat.le_refl _) k
  rw [List.take_length] at h
  rw [bitB_test, h]
  have hv : l[k] < 2 := hl _ (List.getElem_mem _)
  have h2 : l[k] = 0 ∨ l[k] = 1 := by omega
  rcases h2 with h2 | h2 <;> simp [hk, h2]
theorem pack_lt (hi : Bool) (l : List Nat) (hl : ∀ v ∈ l, v < 2) (n : Nat) (hn : n ≤ l.length) : ∀ v ∈ (pack hi (l.take n)).1, v < 256 := by
  induction n with
  | zero => simp [pack]
  | succ n ih =>
    have ih := ih (by omega)
    have hv : l[n] < 2 := hl _ (List.getElem_mem _)
    rw [pack_step hi l n (by omega)]
    have hr : ∀ v ∈ roomO (pack hi (l.take n)).1 (pack hi (l.take n)).2, v < 256 := by
      intro v hv
      unfold roomO at hv
      split at hv
      · rcases List.mem_append.1 hv with h | h
        · exact ih v h
        · simp at h
          omega
      · exact ih v hv
    intro v hm
    rcases List.mem_or_eq_of_mem_set hm with h | rfl
    · exact hr v h
    · refine Nat.or_lt_two_pow (n := 8) ?_ ?_
      · cases h : (roomO (pack hi (l.take n)).1 (pack hi (l.take n)).2)[n / 8]? with
        | none => simp
        | some u => exact hr u (List.mem_of_getElem? h)
      · have h1 : posB hi (7 - n % 8) ≤ 7 := by unfold posB; split <;> omega
        have h2 : 2 ^ posB hi (7 - n % 8) ≤ 2 ^ 7 := Nat.pow_le_pow_right (by omega) h1
        have h3 : l[n] * 2 ^ posB hi (7 - n % 8) ≤ 1 * 2 ^ posB hi (7 - n % 8) := Nat.mul_le_mul_right _ (by omega)
        omega
theorem pack_lt' (hi : Bool) (l : List Nat) (hl : ∀ v ∈ l, v < 2) : ∀ v ∈ (pack hi l).1, v < 256 := by
  have h := pack_lt hi l hl l.length (Nat.le_refl _)
  rwa [List.take_length] at h
theorem getD_lt {o : List Nat} (h : ∀ v ∈ o, v < 256) (i : Nat) : (o[i]?).getD 0 < 256 := by
  cases he : o[i]? with
  | none => simp
  | some u => exact h u (List.mem_of_getElem? he)
theorem emod_step (x a : Int) (ha : 0 < a) : x % (a * 2) = x % a + a * (x / a % 2) := by
  have h1 := Int.mul_ediv_add_emod x a
  have h2 := Int.emod_nonneg x (Int.ne_of_gt ha)
  have h3 := Int.emod_lt_of_pos x ha
  generalize x / a = q at *
  generalize x % a = r at *
  obtain ⟨m, t, rfl, ht⟩ : ∃ m t : Int, q = 2 * m + t ∧ (t = 0 ∨ t = 1) := ⟨q / 2, q % 2, by omega, by omega⟩
  have h4 : (2 * m + t) % 2 = t := by omega
  have e : x = (r + a * t) + (a * 2) * m := by rw [← h1, Int.mul_add, Int.mul_assoc]; omega
  rw [h4, e, Int.add_mul_emod_self_left]
  refine Int.emod_eq_of_lt ?_ ?_ <;> rcases ht with rfl | rfl <;> omega
/-- Numbers out of bits. -/
theorem takeL_num (b : Nat → Nat) (p : Nat) (x : Int) (n : Nat) (h : ∀ i, i < n → bitL b (p + i) = bitX x i) : ((takeL b p n : Nat) : Int) = x % 2 ^ n := by
  induction n with
  | zero => simp [takeL]
  | succ n ih =>
    rw [takeL, Int.natCast_add, ih (fun i hi => h i (by omega)), h n (by omega), Int.natCast_mul]
    unfold bitX
    have h1 : (0 : Int) ≤ x / 2 ^ n % 2 := Int.emod_nonneg _ (by omega)
    rw [Int.toNat_of_nonneg h1]
    have e : x % 2 ^ (n + 1) = x % 2 ^ n + 2 ^ n * (x / 2 ^ n % 2) := by
      rw [Int.pow_succ]
      exact emod_step x _ (Int.pow_pos (by omega))
    rw [e, Int.mul_comm (2 ^ n)]
    simp
theorem emod_two (y z : Int) (hz : 0 < z) : y % (2 * z) = 2 * (y / 2 % z) + y % 2 := by
  have h1 := Int.mul_ediv_add_emod (y / 2) z
  have h2 := Int.emod_nonneg (y / 2) (Int.ne_of_gt hz)
  have h3 := Int.emod_lt_of_pos (y / 2) hz
  generalize y / 2 / z = q at *
  generalize hr : y / 2 % z = r at *
  have e : y = (2 * r + y % 2) + (2 * z) * q := by rw [Int.mul_assoc]; omega
  have e2 : y % (2 * z) = ((2 * r + y % 2) + (2 * z) * q) % (2 * z) := by rw [← e]
  rw [e2, Int.add_mul_emod_self_left]
  exact Int.emod_eq_of_lt (by omega) (by omega)
theorem takeH_num (b : Nat → Nat) (p : Nat) (x : Int) (n k : Nat) (hk : k ≤ n) (h : ∀ i, i < n → bitH b (p + i) = bitX x (n - 1 - i)) : ((takeH b p k : Nat) : Int) = x / 2 ^ (n - k) % 2 ^ k := by
  induction k with
  | zero => simp [takeH, Int.emod_one]
  | succ k ih =>
    rw [takeH, Int.natCast_add, Int.natCast_mul, ih (by omega), h k (by omega)]
    unfold bitX
    have h1 : (0 : Int) ≤ x / 2 ^ (n - 1 - k) % 2 := Int.emod_nonneg _ (by omega)
    rw [Int.toNat_of_nonneg h1, show n - 1 - k = n - (k + 1) by omega]
    have e2 : x / 2 ^ (n - k) = x / 2 ^ (n - (k + 1)) / 2 := by
      rw [show n - k = (n - (k + 1)) + 1 by omega, Int.pow_succ, Int.ediv_ediv_of_nonneg (Int.pow_nonneg (by omega))]
    rw [e2]
    generalize x / 2 ^ (n - (k + 1)) = y
    have h9 : (0 : Int) < 2 ^ k := Int.pow_pos (by omega)
    rw [Int.pow_succ, Int.mul_comm (2 ^ k) 2]
    generalize (2 : Int) ^ k = z at *
    have e3 := emod_two y z h9
    omega
theorem takeH_num' (b : Nat → Nat) (p : Nat) (x : Int) (n : Nat) (h : ∀ i, i < n → bitH b (p + i) = bitX x (n - 1 - i)) : ((takeH b p n : Nat) : Int) = x % 2 ^ n := by
  have := takeH_num b p x n n (Nat.le_refl _) h
  simpa using this
end Go.Proofs.Ytioghgnngdcicaa
