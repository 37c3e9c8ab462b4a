/- Plain laws of bits: what is put bit by bit, and read again. The reference's writer of bits. What the reference's writer of bits has written. bmpwrite's file: its bytes; put. -/
import Derived.Test.YtdooefnckdklmaaDoorM19
import Derived.StillTailTactics
import Derived.BigRegion
import Derived.Deep.RegionLaw
namespace Go.Proofs.YtdooefnckdklmaaDoor
set_option maxRecDepth 100000
set_option linter.unusedVariables false

/-- A bit put behind what was put. -/
def posB (hi : Bool) (r : Nat) : Nat := if hi = true then r else 7 - r
def addB (hi : Bool) (s : List Nat × Nat) (v : Nat) : List Nat × Nat := (orLast (roomO s.1 s.2) (v * 2 ^ posB hi (roomF s.2)), roomF s.2)
/-- Bits, packed. -/
def pack (hi : Bool) (l : List Nat) : List Nat × Nat := l.foldl (addB hi) ([], 0)
theorem pack_append (hi : Bool) (l m : List Nat) : pack hi (l ++ m) = m.foldl (addB hi) (pack hi l) := by simp [pack]
theorem pack_snoc (hi : Bool) (l : List Nat) (v : Nat) : pack hi (l ++ [v]) = addB hi (pack hi l) v := by simp [pack]
/-- A number's bits in the order in which they are put. -/
def numB (hi : Bool) (x : Int) (n : Nat) : List Nat := (List.range n).map fun i => bitX x (if hi = true then n - 1 - i else i)
theorem numB_len (hi : Bool) (x : Int) (n : Nat) : (numB hi x n).length = n := by simp [numB]
theorem numB_lt (hi : Bool) (x : Int) (n : Nat) : ∀ v ∈ numB hi x n, v < 2 := by
  intro v hv
  obtain ⟨i, _, rfl⟩ := List.mem_map.1 hv
  exact bitX_lt _ _
theorem numB_get (hi : Bool) (x : Int) (n i : Nat) (h : i < n) : (numB hi x n)[i]? = some (bitX x (if hi = true then n - 1 - i else i)) := by simp [numB, h]
theorem putsL_fold (x : Int) (o : List Nat) (fr k : Nat) : putsL x o fr k = (numB false x k).foldl (addB false) (o, fr) := by
  induction k with
  | zero => rfl
  | succ k ih =>
    have e : numB false x (k + 1) = numB false x k ++ [bitX x k] := by simp [numB, List.range_succ]
    rw [putsL, ih, e, List.foldl_append]
    rfl
theorem putsH_fold' (x : Int) (n : Nat) (o : List Nat) (fr k : Nat) : putsH x n o fr k = ((List.range k).map fun i => bitX x (n - 1 - i)).foldl (addB true) (o, fr) := by
  induction k with
  | zero => rfl
  | succ k ih =>
    rw [putsH, ih, List.range_succ, List.map_append, List.foldl_append]
    rfl
theorem putsH_fold (x : Int) (o : List Nat) (fr n : Nat) : putsH x n o fr n = (numB true x n).foldl (addB true) (o, fr) := putsH_fold' x n o fr n
theorem putsL_pack (l : List Nat) (x : Int) (n : Nat) : putsL x (pack false l).1 (pack false l).2 n = pack false (l ++ numB false x n) := by rw [putsL_fold, pack_append]
theorem putsH_pack (l : List Nat) (x : Int) (n : Nat) : putsH x n (pack true l).1 (pack true l).2 n = pack true (l ++ numB true x n) := by rw [putsH_fold, pack_append]
theorem orLast_len (o : List Nat) (v : Nat) : (orLast o v).length = o.length := by simp [orLast]
theorem pack_shape (hi : Bool) (l : List Nat) (n : Nat) (hn : n ≤ l.length) : (pack hi (l.take n)).1.length = (n + 7) / 8 ∧ (pack hi (l.take n)).2 = (8 - n % 8) % 8 := by
  induction n with
  | zero => simp [pack]
  | succ n ih =>
    obtain ⟨h1, h2⟩ := ih (by omega)
    rw [List.take_add_one, List.getElem?_eq_getElem (by omega), Option.toList_some, pack_snoc]
    simp only [addB, orLast_len, roomO, roomF, h2]
    by_cases h : n % 8 = 0
    · rw [if_pos (by omega), if_pos (by omega)]
      simp only [List.length_append, List.length_singleton, h1]
      omega
    · rw [if_neg (by omega), if_neg (by omega), h1]
      omega
theorem pack_len (hi : Bool) (l : List Nat) : (pack hi l).1.length = (l.length + 7) / 8 := by
  have h := (pack_shape hi l l.length (Nat.le_refl _)).1
  rwa [List.take_length] at h
theorem pack_room (hi : Bool) (l : List Nat) (n : Nat) (hn : n ≤ l.length) : roomF (pack hi (l.take n)).2 = 7 - n % 8 ∧ (roomO (pack hi (l.take n)).1 (pack hi (l.take n)).2).length = n / 8 + 1 := by
  obtain ⟨h1, h2⟩ := pack_shape hi l n hn
  simp only [roomO, roomF, h2]
  by_cases h : n % 8 = 0
  · rw [if_pos (by omega), if_pos (by omega)]
    simp only [List.length_append, List.length_singleton, h1]
    omega
  · rw [if_neg (by omega), if_neg (by omega), h1]
    omega
theorem pack_step (hi : Bool) (l : List Nat) (n : Nat) (hn : n < l.length) :
    (pack hi (l.take (n + 1))).1 = (roomO (pack hi (l.take n)).1 (pack hi (l.take n)).2).set (n / 8) (((roomO (pack hi (l.take n)).1 (pack hi (l.take n)).2)[n / 8]?).getD 0 ||| l[n] * 2 ^ posB hi (7 - n % 8)) := by
  obtain ⟨h1, h2⟩ := pack_room hi l n (by omega)
  rw [List.take_add_one, List.getElem?_eq_getElem (by omega), Option.toList_some, pack_snoc]
  simp only [addB, orLast, h1, h2, Nat.add_sub_cancel]
/-- The bytes of the first i bits, and noughts behind them. -/
def outR (hi : Bool) (l : List Nat) (i : Nat) : List Nat := (pack hi (l.take i)).1 ++ List.replicate ((l.length + 7) / 8 - (i + 7) / 8) 0
theorem outR_room (hi : Bool) (l : List Nat) (i : Nat) (hi' : i < l.length) : outR hi l i = roomO (pack hi (l.take i)).1 (pack hi (l.take i)).2 ++ List.replicate ((l.length + 7) / 8 - (i + 8) / 8) 0 := by
  obtain ⟨h1, h2⟩ := pack_shape hi l i (by omega)
  unfold outR roomO
  by_cases h : i % 8 = 0
  · rw [if_pos (by omega), List.append_assoc]
    congr 1
    rw [show (l.length + 7) / 8 - (i + 7) / 8 = ((l.length + 7) / 8 - (i + 8) / 8) + 1 by omega, List.replicate_succ]
    rfl
  · rw [if_neg (by omega), show (i + 8) / 8 = (i + 7) / 8 by omega]
theorem outR_len (hi : Bool) (l : List Nat) (i : Nat) (h : i ≤ l.length) : (outR hi l i).length = (l.length + 7) / 8 := by
  unfold outR
  rw [List.length_append, (pack_shape hi l i h).1, List.length_replicate]
  omega
theorem outR_step (hi : Bool) (l : List Nat) (i : Nat) (h : i < l.length) : outR hi l (i + 1) = (outR hi l i).set (i / 8) (((outR hi l i)[i / 8]?).getD 0 ||| l[i] * 2 ^ posB hi (7 - i % 8)) := by
  obtain ⟨h1, h2⟩ := pack_room hi l i (by omega)
  have e := outR_room hi l i h
  rw [e, List.set_append_left _ _ (by omega), List.getElem?_append_left (by omega)]
  unfold outR
  rw [pack_step hi l i h]
theorem outR_zero (hi : Bool) (l : List Nat) : outR hi l 0 = List.replicate ((l.length + 7) / 8) 0 := by simp [outR, pack]
theorem outR_all (hi : Bool) (l : List Nat) : outR hi l l.length = (pack hi l).1 := by simp [outR]
theorem mul_pow_testBit (v q p : Nat) (hv : v < 2) : (v * 2 ^ q).testBit p = (decide (p = q) && decide (v = 1)) := by
  have h : v = 0 ∨ v = 1 := by omega
  rcases h with rfl | rfl
  · simp
  · rw [Nat.one_mul, Nat.testBit_two_pow]
    simp [eq_comm]
theorem roomO_get (o : List Nat) (fr j : Nat) : ((roomO o fr)[j]?).getD 0 = (o[j]?).getD 0 := by
  unfold roomO
  split
  · by_cases h : j < o.length
    · rw [List.getElem?_append_left h]
    · by_cases h2 : j = o.length
      · subst h2
        simp
      · rw [List.getElem?_eq_none (by simp; omega), List.getElem?_eq_none (by omega)]
  · rfl
theorem posB_inj {hi : Bool} {a b : Nat} (ha : a < 8) (hb : b < 8) : posB hi (7 - a) = posB hi (7 - b) ↔ a = b := by
  unfold posB
  split <;> omega
theorem pack_bit (hi : Bool) (l : List Nat) (hl : ∀ v ∈ l, v < 2) (n : Nat) (hn : n ≤ l.length) (k : Nat) :
    (((pack hi (l.take n)).1[k / 8]?).getD 0).testBit (posB hi (7 - k % 8)) = decide (k < n ∧ l[k]? = some 1) := by
  induction n with
  | zero => simp [pack]
  | succ n ih =>
    have ih := ih (by omega)
    have hv : l[n] < 2 := hl _ (List.getElem_mem _)
    have hlen := (pack_room hi l n (by omega)).2
    rw [pack_step hi l n (by omega)]
    by_cases hk : k / 8 = n / 8
    · rw [hk, List.getElem?_set_self (by omega), Option.getD_some, Nat.testBit_or, roomO_get, ← hk, ih, mul_pow_testBit _ _ _ hv]
      by_cases he : k = n
      · subst he
        have h0 : k < l.length := by omega
        simp [h0]
      · have h0 : ¬ posB hi (7 - k % 8) = posB hi (7 - n % 8) := by
          rw [posB_inj (by omega) (by omega)]
          omega
        have h1 : (k < n ∧ l[k]? = some 1) ↔ (k < n + 1 ∧ l[k]? = some 1) := ⟨fun h => ⟨by omega, h.2⟩, fun h => ⟨by omega, h.2⟩⟩
        simp only [h0, decide_false, Bool.false_and, Bool.or_false, h1]
    · rw [List.getElem?_set_ne (Ne.symm hk), roomO_get, ih]
      have h1 : (k < n ∧ l[k]? = some 1) ↔ (k < n + 1 ∧ l[k]? = some 1) := ⟨fun h => ⟨by omega, h.2⟩, fun h => ⟨by
        have := h.1
        have : k ≠ n := fun e => hk (by rw [e])
        omega, h.2⟩⟩
      simp only [h1]
theorem bitB_test (hi : Bool) (b : Nat → Nat) (k : Nat) : bitB hi b k = ((b (k / 8)).testBit (posB hi (7 - k % 8))).toNat := by
  have h : posB hi (7 - k % 8) = if hi = true then 7 - k % 8 else k % 8 := by unfold posB; split <;> omega
  rw [h, Nat.testBit_eq_decide_div_mod_eq]
  unfold bitB bitH bitL
  split
  · generalize b (k / 8) / 2 ^ (7 - k % 8) = y
    rcases Nat.mod_two_eq_zero_or_one y with h | h <;> simp [h]
  · generalize b (k / 8) / 2 ^ (k % 8) = y
    rcases Nat.mod_two_eq_zero_or_one y with h | h <;> simp [h]
/-- The bits of what was packed. -/
theorem pack_get (hi : Bool) (l : List Nat) (hl : ∀ v ∈ l, v < 2) (k : Nat) (hk : k < l.length) : bitB hi (fun i => ((pack hi l).1[i]?).getD 0) k = l[k] := by
  have h := pack_bit hi l hl l.length (Nat.le_refl _) k
  rw [List.take_length] at h
  rw [bitB_test, h]
  have hv : l[k] < 2 := hl _ (List.getElem_mem _)
  have h2 : l[k] = 0 ∨ l[k] = 1 := by omega
  rcases h2 with h2 | h2 <;> simp [hk, h2]
theorem pack_lt (hi : Bool) (l : List Nat) (hl : ∀ v ∈ l, v < 2) (n : Nat) (hn : n ≤ l.length) : ∀ v ∈ (pack hi (l.take n)).1, v < 256 := by
  induction n with
  | zero => simp [pack]
  | succ n ih =>
    have ih := ih (by omega)
    have hv : l[n] < 2 := hl _ (List.getElem_mem _)
    rw [pack_step hi l n (by omega)]
    have hr : ∀ v ∈ roomO (pack hi (l.take n)).1 (pack hi (l.take n)).2, v < 256 := by
      intro v hv
      unfold roomO at hv
      split at hv
      · rcases List.mem_append.1 hv with h | h
        · exact ih v h
        · simp at h
          omega
      · exact ih v hv
    intro v hm
    rcases List.mem_or_eq_of_mem_set hm with h | rfl
    · exact hr v h
    · refine Nat.or_lt_two_pow (n := 8) ?_ ?_
      · cases h : (roomO (pack hi (l.take n)).1 (pack hi (l.take n)).2)[n / 8]? with
        | none => simp
        | some u => exact hr u (List.mem_of_getElem? h)
      · have h1 : posB hi (7 - n % 8) ≤ 7 := by unfold posB; split <;> omega
        have h2 : 2 ^ posB hi (7 - n % 8) ≤ 2 ^ 7 := Nat.pow_le_pow_right (by omega) h1
        have h3 : l[n] * 2 ^ posB hi (7 - n % 8) ≤ 1 * 2 ^ posB hi (7 - n % 8) := Nat.mul_le_mul_right _ (by omega)
        omega
theorem pack_lt' (hi : Bool) (l : List Nat) (hl : ∀ v ∈ l, v < 2) : ∀ v ∈ (pack hi l).1, v < 256 := by
  have h := pack_lt hi l hl l.length (Nat.le_refl _)
  rwa [List.take_length] at h
theorem getD_lt {o : List Nat} (h : ∀ v ∈ o, v < 256) (i : Nat) : (o[i]?).getD 0 < 256 := by
  cases he : o[i]? with
  | none => simp
  | some u => exact h u (List.mem_of_getElem? he)
theorem emod_step (x a : Int) (ha : 0 < a) : x % (a * 2) = x % a + a * (x / a % 2) := by
  have h1 := Int.mul_ediv_add_emod x a
  have h2 := Int.emod_nonneg x (Int.ne_of_gt ha)
  have h3 := Int.emod_lt_of_pos x ha
  generalize x / a = q at *
  generalize x % a = r at *
  obtain ⟨m, t, rfl, ht⟩ : ∃ m t : Int, q = 2 * m + t ∧ (t = 0 ∨ t = 1) := ⟨q / 2, q % 2, by omega, by omega⟩
  have h4 : (2 * m + t) % 2 = t := by omega
  have e : x = (r + a * t) + (a * 2) * m := by rw [← h1, Int.mul_add, Int.mul_assoc]; omega
  rw [h4, e, Int.add_mul_emod_self_left]
  refine Int.emod_eq_of_lt ?_ ?_ <;> rcases ht with rfl | rfl <;> omega
/-- Numbers out of bits. -/
theorem takeL_num (b : Nat → Nat) (p : Nat) (x : Int) (n : Nat) (h : ∀ i, i < n → bitL b (p + i) = bitX x i) : ((takeL b p n : Nat) : Int) = x % 2 ^ n := by
  induction n with
  | zero => simp [takeL]
  | succ n ih =>
    rw [takeL, Int.natCast_add, ih (fun i hi => h i (by omega)), h n (by omega), Int.natCast_mul]
    unfold bitX
    have h1 : (0 : Int) ≤ x / 2 ^ n % 2 := Int.emod_nonneg _ (by omega)
    rw [Int.toNat_of_nonneg h1]
    have e : x % 2 ^ (n + 1) = x % 2 ^ n + 2 ^ n * (x / 2 ^ n % 2) := by
      rw [Int.pow_succ]
      exact emod_step x _ (Int.pow_pos (by omega))
    rw [e, Int.mul_comm (2 ^ n)]
    simp
theorem emod_two (y z : Int) (hz : 0 < z) : y % (2 * z) = 2 * (y / 2 % z) + y % 2 := by
  have h1 := Int.mul_ediv_add_emod (y / 2) z
  have h2 := Int.emod_nonneg (y / 2) (Int.ne_of_gt hz)
  have h3 := Int.emod_lt_of_pos (y / 2) hz
  generalize y / 2 / z = q at *
  generalize hr : y / 2 % z = r at *
  have e : y = (2 * r + y % 2) + (2 * z) * q := by rw [Int.mul_assoc]; omega
  have e2 : y % (2 * z) = ((2 * r + y % 2) + (2 * z) * q) % (2 * z) := by rw [← e]
  rw [e2, Int.add_mul_emod_self_left]
  exact Int.emod_eq_of_lt (by omega) (by omega)
theorem takeH_num (b : Nat → Nat) (p : Nat) (x : Int) (n k : Nat) (hk : k ≤ n) (h : ∀ i, i < n → bitH b (p + i) = bitX x (n - 1 - i)) : ((takeH b p k : Nat) : Int) = x / 2 ^ (n - k) % 2 ^ k := by
  induction k with
  | zero => simp [takeH, Int.emod_one]
  | succ k ih =>
    rw [takeH, Int.natCast_add, Int.natCast_mul, ih (by omega), h k (by omega)]
    unfold bitX
    have h1 : (0 : Int) ≤ x / 2 ^ (n - 1 - k) % 2 := Int.emod_nonneg _ (by omega)
    rw [Int.toNat_of_nonneg h1, show n - 1 - k = n - (k + 1) by omega]
    have e2 : x / 2 ^ (n - k) = x / 2 ^ (n - (k + 1)) / 2 := by
      rw [show n - k = (n - (k + 1)) + 1 by omega, Int.pow_succ, Int.ediv_ediv_of_nonneg (Int.pow_nonneg (by omega))]
    rw [e2]
    generalize x / 2 ^ (n - (k + 1)) = y
    have h9 : (0 : Int) < 2 ^ k := Int.pow_pos (by omega)
    rw [Int.pow_succ, Int.mul_comm (2 ^ k) 2]
    generalize (2 : Int) ^ k = z at *
    have e3 := emod_two y z h9
    omega
theorem takeH_num' (b : Nat → Nat) (p : Nat) (x : Int) (n : Nat) (h : ∀ i, i < n → bitH b (p + i) = bitX x (n - 1 - i)) : ((takeH b p n : Nat) : Int) = x % 2 ^ n := by
  have := takeH_num b p x n n (Nat.le_refl _) h
  simpa using this
end Go.Proofs.YtdooefnckdklmaaDoor

namespace Go.Proofs.YtdooefnckdklmaaDoor
set_option maxRecDepth 100000
set_option linter.unusedVariables false
open Go.ChangeShapes Go.WideShapes Go.ChangeAt Go.RowKit
theorem cellsI_len (l : List Nat) : (cellsI l).length = l.length := by simp [cellsI]
theorem info_int : (Tryd.prog.info? 3).map (fun i => (i.zero, i.size, i.bytes)) = some (some (.int .i64 0), 1, 8) := by kernel_rfl
/-- The reference's writer: its bits; ob: its row's block. -/
structure Pk (g : Nat) (l : List Nat) (hi : Bool) (ob : Option Nat) (W : World) : Prop where
  row : ∃ vo, W.heap[g]? = some (.cells #[vo, .bool hi] 53 (0, 0)) ∧ W.ownsRow 0 3 1 vo l.length (cellsI l) ∧ vo.ownBlock = ob
  ne : ob ≠ some g
  lt : ∀ x ∈ l, x < 2
theorem own_base {w : World} {base : Nat} {e : TypeId} {size n : Nat} {v : Value} {xs : List Value} (h : w.ownsRow base e size v n xs) : w.ownsRow 0 e size v n xs :=
  ⟨h.1, h.2.imp id fun ⟨g, cap, cur, h1, _, h2⟩ => ⟨g, cap, cur, h1, Nat.zero_le _, h2⟩⟩
theorem own_lt {w : World} {base : Nat} {e : TypeId} {size n : Nat} {v : Value} {xs : List Value} (h : w.ownsRow base e size v n xs) {k : Nat} (hk : v.ownBlock = some k) : k < w.heap.size := (h.lt k hk).2
theorem Pk.chg {g : Nat} {l : List Nat} {hi : Bool} {ob : Option Nat} {w w' : World} {S : List Nat} (h : Pk g l hi ob w) (hc : Chg S w w') (hg : g ∉ S) (hob : ∀ k, ob = some k → k ∉ S) : Pk g l hi ob w' := by
  obtain ⟨⟨vo, hb, hown, he⟩, hn, hl⟩ := h
  exact ⟨⟨vo, hp_chg hb hc hg, own_chg hown hc (fun k hk => hob k (he.symm.trans hk)), he⟩, hn, hl⟩
theorem Pk.ob_lt {g : Nat} {l : List Nat} {hi : Bool} {ob : Option Nat} {w : World} (h : Pk g l hi ob w) {k : Nat} (hk : ob = some k) : k < w.heap.size := by
  obtain ⟨⟨vo, hb, hown, he⟩, hn, hl⟩ := h
  exact own_lt hown (he.trans hk)
theorem Pk.g_lt {g : Nat} {l : List Nat} {hi : Bool} {ob : Option Nat} {w : World} (h : Pk g l hi ob w) : g < w.heap.size := by
  obtain ⟨⟨vo, hb, hown, he⟩, hn, hl⟩ := h
  exact lt_heap hb
theorem own_apart2 {x : Value} {ob : Option Nat} {g : Nat} (he : x.ownBlock = ob) (hn : ob ≠ some g) : x.ownBlock = none ∨ x.ownBlock ≠ some g := .inr (by rw [he]; exact hn)
theorem bitX_eq (x : Int) (k : Nat) : bits BinOp.and IntKind.i64 (x / 2 ^ k) 1 = ((bitX x k : Nat) : Int) := by
  rw [i64_and1]
  unfold bitX
  omega
set_option maxRecDepth 100000 in
set_option maxHeartbeats 400000 in
theorem put_pk (g : Nat) (l : List Nat) (hi : Bool) (ob : Option Nat) (hl : l.length ≤ 500000) (x : Int) (hx : In64 x) (n : Nat) (hn : n ≤ 60) (w : World) (h : Pk g l hi ob w) :
    Calls Tryd.prog 20 #[.pointer (some ⟨g, 0, none⟩), .int .i64 x, .int .i64 (n : Nat)] w fun e w' => e = .returned (.tuple #[]) ∧ Chg (Near g ob) w w' ∧ ∃ ob', Pk g (l ++ numB hi x n) hi ob' w' ∧ Next ob ob' w := by
  obtain ⟨i0, hi0, hz0, hz1, hz2⟩ := info_parts info_int
  go_enter Tryd.func20, Tryd.ntmps20
  go_wp2_with fail
  go_loopw [6] (fun c wr => ∃ (k : Nat) (ob' : Option Nat), k ≤ n ∧ c = .int .i64 k ∧ Chg (Near g ob) w wr ∧ Next ob ob' w ∧ Pk g (l ++ (numB hi x n).take k) hi ob' wr) (fun c _ => n - (intOf c).toNat)
  case atStart => exact ⟨0, ob, by omega, rfl, Chg.refl _ _, .inl rfl, by simpa using h⟩
  case round =>
    obtain ⟨k, ob1, hk, rfl, hCh, hNx, hW⟩ := hrel
    by_cases hlt : k < n
    · have hgl := hW.g_lt
      have hnx : l ++ (numB hi x n).take (k + 1) = (l ++ (numB hi x n).take k) ++ [bitX x (if hi = true then n - 1 - k else k)] := by
        rw [List.take_add_one, numB_get hi x n k hlt, Option.toList_some, List.append_assoc]
      have HX := Lib.hid hnx
      have hlen : (l ++ (numB hi x n).take k).length = l.length + k := by simp [numB_len]; omega
      obtain ⟨m, hm⟩ : ∃ m, m = l ++ (numB hi x n).take k := ⟨_, rfl⟩
      rw [← hm] at hlen hW
      have HM := Lib.hid hm
      have hml : m.length ≤ 500000 + n := by omega
      clear hnx hm hlen
      obtain ⟨⟨vo, hb, hown, hob⟩, hne, hl2⟩ := hW
      have HOB := Lib.hid hob
      clear hob
      have c0 := hp_cell (j := 0) hb rfl
      have c1 := hp_cell (j := 1) hb rfl
      have ff := fun j => hp_froz hb j
      cases hi with
      | true =>
        simp only [if_true] at HX
        obtain ⟨q, hq⟩ : ∃ q, q = n - 1 - k := ⟨_, rfl⟩
        rw [← hq] at HX
        have hqe : (n : Int) - 1 - (k : Int) = (q : Int) := by omega
        have hq64 : q < 64 := by omega
        have hbx := bitX_eq x q
        obtain ⟨y, hy⟩ : ∃ y, y = bitX x q := ⟨_, rfl⟩
        have hy2 : y < 2 := by rw [hy]; exact bitX_lt x q
        rw [← hy] at hbx HX
        clear hq hy
        go_wp2_with (at_builtin; refine wpList_append_own_at _ rfl _ _ 47 rfl 0 3 i0 _ 1 8 Tryd.underlying47 hi0 hz0 hz1 hz2 rfl (by decide) _ _ _ rfl (hown.alloc _) ⟨wr.heap.size, 0, none⟩ 1 1 [.int .i64 (y : Nat)] rfl rfl ?c1 ?c2 ?c3 ?c4 ?c5 ?_)
        case c1 => intro j u hj; cases j with | zero => simp at hj; subst hj; exact hp_cell (j := 0) (hp_new0 wr _) (by simp) | succ j => simp at hj
        case c2 => intro u hu; simp at hu; subst hu; rfl
        case c3 => unfold maxLen; omega
        case c4 => omega
        case c5 => simp
        intro u2 w4 hown' hgrow _ hat
        rw [HOB.out] at hat hgrow
        obtain ⟨_, Au, cu, rfl, hq1, hq2, _⟩ := Sl.of_own hown'
        obtain ⟨u2, hu2⟩ : ∃ u2, u2 = Value.slice Au (m.length + 1) cu := ⟨_, rfl⟩
        rw [← hu2] at hat hown'
        have hb2 := hp_alloc (.cells #[.int .i64 (y : Nat)] 3) hb
        have hb4 := (hgrow.block g (lt_heap hb2) (fun e => hne e.symm)).trans hb2
        have hC4 : Chg (Near g ob1) wr w4 := ((Chg.refl _ wr).alloc _).trans (Chg.grown hgrow (fun r e => by subst e; simp [Near]))
        have hne2 : u2.ownBlock ≠ some g := by
          rcases hat with h | h
          · rw [h]; exact hne
          · rw [h]; simp; omega
        have hs1 := heap_set (i := 0) (x := u2) hb4
        have hk1 := hown'.kept (grown_set w4 g 0 u2) (.inr hne2)
        have hCf := hCh.trans2 (hC4.trans (near_set (ob := ob1) w4 0 u2)) hNx.near
        have hN : Next ob1 u2.ownBlock wr := by
          rcases hat with h | h
          · exact .inl h
          · exact .inr ⟨_, h, by simp⟩
        have hN2 := hNx.trans hN hCh.size
        have H1 := Lib.hid hs1
        have H2 := Lib.hid hk1
        have H3 := Lib.hid hCf
        have H4 := Lib.hid hN2
        have d0 := hp_cell (j := 0) hb4 rfl
        have df := fun j => hp_froz hb4 j
        clear hs1 hk1 hCf hN2 hN hat hgrow hown' hb2 hb4 hC4 c0 c1 ff hown hb
        subst hu2
        go_wp2_with fail
        go_roundw
        case rel =>
          refine ⟨k + 1, _, hlt, by go_num, H3.out, H4.out, ?_⟩
          rw [HX.out, ← HM.out]
          refine ⟨⟨_, H1.out, ?_, rfl⟩, hne2, fun v hv => ?_⟩
          · rw [List.length_append, List.length_singleton, cellsI_snoc]
            exact H2.out
          · rcases List.mem_append.1 hv with h | h
            · exact hl2 v h
            · simp at h
              omega
        case measure => simp [intOf]; omega
      | false =>
        simp only [Bool.false_eq_true, if_false] at HX
        have hq64 : k < 64 := by omega
        have hbx := bitX_eq x k
        obtain ⟨y, hy⟩ : ∃ y, y = bitX x k := ⟨_, rfl⟩
        have hy2 : y < 2 := by rw [hy]; exact bitX_lt x k
        rw [← hy] at hbx HX
        clear hy
        go_wp2_with (at_builtin; refine wpList_append_own_at _ rfl _ _ 47 rfl 0 3 i0 _ 1 8 Tryd.underlying47 hi0 hz0 hz1 hz2 rfl (by decide) _ _ _ rfl (hown.alloc _) ⟨wr.heap.size, 0, none⟩ 1 1 [.int .i64 (y : Nat)] rfl rfl ?c1 ?c2 ?c3 ?c4 ?c5 ?_)
        case c1 => intro j u hj; cases j with | zero => simp at hj; subst hj; exact hp_cell (j := 0) (hp_new0 wr _) (by simp) | succ j => simp at hj
        case c2 => intro u hu; simp at hu; subst hu; rfl
        case c3 => unfold maxLen; omega
        case c4 => omega
        case c5 => simp
        intro u2 w4 hown' hgrow _ hat
        rw [HOB.out] at hat hgrow
        obtain ⟨_, Au, cu, rfl, hq1, hq2, _⟩ := Sl.of_own hown'
        obtain ⟨u2, hu2⟩ : ∃ u2, u2 = Value.slice Au (m.length + 1) cu := ⟨_, rfl⟩
        rw [← hu2] at hat hown'
        have hb2 := hp_alloc (.cells #[.int .i64 (y : Nat)] 3) hb
        have hb4 := (hgrow.block g (lt_heap hb2) (fun e => hne e.symm)).trans hb2
        have hC4 : Chg (Near g ob1) wr w4 := ((Chg.refl _ wr).alloc _).trans (Chg.grown hgrow (fun r e => by subst e; simp [Near]))
        have hne2 : u2.ownBlock ≠ some g := by
          rcases hat with h | h
          · rw [h]; exact hne
          · rw [h]; simp; omega
        have hs1 := heap_set (i := 0) (x := u2) hb4
        have hk1 := hown'.kept (grown_set w4 g 0 u2) (.inr hne2)
        have hCf := hCh.trans2 (hC4.trans (near_set (ob := ob1) w4 0 u2)) hNx.near
        have hN : Next ob1 u2.ownBlock wr := by
          rcases hat with h | h
          · exact .inl h
          · exact .inr ⟨_, h, by simp⟩
        have hN2 := hNx.trans hN hCh.size
        have H1 := Lib.hid hs1
        have H2 := Lib.hid hk1
        have H3 := Lib.hid hCf
        have H4 := Lib.hid hN2
        have d0 := hp_cell (j := 0) hb4 rfl
        have df := fun j => hp_froz hb4 j
        clear hs1 hk1 hCf hN2 hN hat hgrow hown' hb2 hb4 hC4 c0 c1 ff hown hb
        subst hu2
        go_wp2_with fail
        go_roundw
        case rel =>
          refine ⟨k + 1, _, hlt, by go_num, H3.out, H4.out, ?_⟩
          rw [HX.out, ← HM.out]
          refine ⟨⟨_, H1.out, ?_, rfl⟩, hne2, fun v hv => ?_⟩
          · rw [List.length_append, List.length_singleton, cellsI_snoc]
            exact H2.out
          · rcases List.mem_append.1 hv with h | h
            · exact hl2 v h
            · simp at h
              omega
        case measure => simp [intOf]; omega
    · obtain rfl : n = k := by omega
      rw [List.take_of_length_le (by rw [numB_len]; omega)] at hW
      go_wp2_with fail
      go_end0
      exact ⟨rfl, hCh, ob1, hW, hNx⟩
end Go.Proofs.YtdooefnckdklmaaDoor

namespace Go.Proofs.YtdooefnckdklmaaDoor
set_option maxRecDepth 100000
set_option linter.unusedVariables false
open Go.ChangeShapes Go.WideShapes Go.ChangeAt Go.RowKit

theorem cellsB_cells8 (o : List Nat) : cellsB o = cells8 o.length (fun i => (o[i]?).getD 0) := by
  unfold cellsB cells8
  refine List.ext_getElem (by simp) (fun i h1 h2 => ?_)
  simp at h1
  simp [h1]
set_option maxRecDepth 100000 in
set_option maxHeartbeats 400000 in
theorem out_pkO (g : Nat) (l : List Nat) (hi : Bool) (ob : Option Nat) (hl : l.length ≤ 500000) (w : World) (h : Pk g l hi ob w) :
    Calls Tryd.prog 21 #[.pointer (some ⟨g, 0, none⟩)] w fun e w' => ∃ v, e = .returned v ∧ w'.ownsRow w.heap.size 5 1 v (pack hi l).1.length (cellsB (pack hi l).1) ∧ Below w.heap.size w w' := by
  obtain ⟨i0, hi0, hz0, hz1, hz2⟩ := info_parts info8
  have hgl := h.g_lt
  obtain ⟨⟨vo, hb, hown, hob⟩, hne, hl2⟩ := h
  obtain ⟨_, Au, cu, rfl, hq1, hq2, hrow⟩ := Sl.of_own hown
  have c0 := hp_cell (j := 0) hb rfl
  have c1 := hp_cell (j := 1) hb rfl
  obtain ⟨N, hN⟩ : ∃ N, N = (l.length + 7) / 8 := ⟨_, rfl⟩
  have e1 : IntKind.i64.wrap ((l.length : Int) + 7) = (l.length : Int) + 7 := IntWalk.i64_in _ (by omega)
  have e2 : ((l.length : Int) + 7) / 8 = (N : Int) := by omega
  have hNl : N ≤ 100000 := by omega
  have HN := Lib.hid hN
  have HR := Lib.hid hrow
  have HOB := Lib.hid hob
  have HOWN := Lib.hid hown
  clear hN hrow hob hown
  obtain ⟨w2, hmk, hown2, hgrow2⟩ := run_makeSlice_full (P := Tryd.prog) (w := w) w.heap.size 22 5 i0 _ 1 Tryd.underlying22 hi0 hz0 hz1 .i64 .i64 N (by omega) (by rw [hz2]; omega) (by unfold maxLen; omega) (Nat.le_refl _)
  have hz9 : (madeCells (Value.int .u8 0).cells (N * 1)).toList = cellsB (outR hi l 0) := by
    rw [outR_zero, Nat.mul_one, show (Value.int .u8 0).cells = #[Value.int .u8 0] from rfl, toList_madeCells_one, ← HN.out]
    simp [cellsB]
  rw [hz9] at hown2
  have hb2 := (hgrow2.block g hgl (by simp)).trans hb
  have HO2 := Lib.hid hown2
  have HG := Lib.hid (Below.refl w.heap.size w |>.grown hgrow2 (Nat.le_refl _) (fun k e => by cases e))
  have HB2 := Lib.hid hb2
  clear hown2 hgrow2 hz9 hb2
  go_enter Tryd.func21, Tryd.ntmps21
  go_wp2_with fail
  clear e1 e2 hmk
  go_loopw [4] (fun c wr => ∃ i : Nat, i ≤ l.length ∧ c = .int .i64 i ∧ wr.ownsRow w.heap.size 5 1 (.slice (some ⟨w.heap.size, 0, none⟩) N N) N (cellsB (outR hi l i)) ∧ wr.heap[g]? = some (.cells #[.slice Au l.length cu, .bool hi] 53 (0, 0)) ∧ Below w.heap.size w wr) (fun c _ => l.length - (intOf c).toNat)
  case atStart => exact ⟨0, by omega, rfl, HO2.out, HB2.out, HG.out⟩
  case round =>
    obtain ⟨i, hil, rfl, hown, hbg, hBW⟩ := hrel
    have k0 := hp_cell (j := 0) hbg rfl
    have k1 := hp_cell (j := 1) hbg rfl
    by_cases hlt : i < l.length
    · have HX := Lib.hid (outR_step hi l i hlt)
      have hol : (outR hi l i).length = N := (outR_len hi l i hil).trans HN.out.symm
      have ho8 : ∀ v ∈ outR hi l i, v < 256 := by
        intro v hv
        rcases List.mem_append.1 hv with h | h
        · exact pack_lt hi l hl2 i hil v h
        · have := (List.mem_replicate.1 h).2
          omega
      obtain ⟨hl0, hf⟩ := hown
      rcases hf with ⟨h9, _⟩ | ⟨gb, cap, cur, he, _, hbo, hnc, hcm, hcs, ht⟩
      · cases h9
      cases he
      obtain ⟨bk, off, rfl, hbk, hcl⟩ := HR.out (by omega)
      have hle := hcl i (by omega)
      have hli : (cellsI l)[i]? = some (.int .i64 ((l[i] : Nat) : Int)) := by simp [cellsI, hlt]
      rw [hli] at hle
      have hle' := (hBW.cell (p := ⟨bk, off + i, none⟩) hbk).trans hle
      obtain ⟨y, hy⟩ : ∃ y, y = l[i] := ⟨_, rfl⟩
      have hy2 : y < 2 := by rw [hy]; exact hl2 _ (List.getElem_mem _)
      rw [← hy] at hle' HX
      clear hy hle hli hcl
      obtain ⟨p, hp⟩ : ∃ p, p = i / 8 := ⟨_, rfl⟩
      have hpN : p < N := by have := HN.out; omega
      have hip : ((i / 8 : Nat) : Int) = (p : Int) := by omega
      have hpI : (i : Int) / 8 = (p : Int) := by omega
      rw [← hp] at HX
      have hzc : cur[p]? = some (.int .u8 (((outR hi l i)[p]'(by omega) : Nat) : Int)) := by
        have h1 := congrArg (fun l => l[p]?) ht
        simp only [List.getElem?_take, show p < N * 1 by omega, if_true] at h1
        rw [← Array.getElem?_toList, h1]
        simp [cellsB, hol, hpN]
      rw [List.getElem?_eq_getElem (show p < (outR hi l i).length by omega), Option.getD_some] at HX
      obtain ⟨z, hz⟩ : ∃ z, z = (outR hi l i)[p]'(by omega) := ⟨_, rfl⟩
      have hz8 : z < 256 := by rw [hz]; exact ho8 _ (List.getElem_mem _)
      rw [← hz] at hzc HX
      have ce := hp_cell hbo hzc
      have ff := fun j => hp_froz hbo j
      have e2 : IntKind.u8.wrap (y : Int) = (y : Int) := by rw [IntKind.wrap_u8']; omega
      have hr8 := run_rem8 i (by omega)
      have hq8 := run_quo8 i (by omega)
      rw [← hp] at hq8
      have tm : ((i : Nat) : Int).tmod 8 = ((i % 8 : Nat) : Int) := (Int.tmod_eq_emod_of_nonneg (by omega)).trans (by omega)
      clear hz hp ho8 hzc
      cases hi with
      | true =>
        have hq : ∃ q, q = 7 - i % 8 := ⟨_, rfl⟩
        obtain ⟨q, hq⟩ := hq
        have hq8 : q < 8 := by omega
        have hqI : (7 : Int) - (i : Int) % 8 = (q : Int) := by omega
        have hpos : posB true (7 - i % 8) = q := by unfold posB; rw [if_pos rfl]; omega
        rw [hpos] at HX
        have hyt : y * 2 ^ q < 256 := by
          have h1 : 2 ^ q ≤ 2 ^ 7 := Nat.pow_le_pow_right (by omega) (by omega)
          have h2 : y * 2 ^ q ≤ 1 * 2 ^ q := Nat.mul_le_mul_right _ (by omega)
          omega
        have e3 : IntKind.u8.wrap ((y : Int) * 2 ^ q) = ((y * 2 ^ q : Nat) : Int) := by
          rw [show (y : Int) * 2 ^ q = ((y * 2 ^ q : Nat) : Int) by simp, IntKind.wrap_u8']
          omega
        have e4 : bits BinOp.or IntKind.u8 (z : Int) ((y * 2 ^ q : Nat) : Int) = ((z ||| y * 2 ^ q : Nat) : Int) := u8_or_nat z (y * 2 ^ q) hz8 hyt
        obtain ⟨r, hr⟩ : ∃ r, r = y * 2 ^ q := ⟨_, rfl⟩
        rw [← hr] at e3 e4 HX hyt
        clear hr hpos hq
        have hst := heap_set (i := p) (x := .int .u8 ((z ||| r : Nat) : Int)) (W := wr.drew) hbo
        have hbn := hp_oth (i := p) (v := .int .u8 ((z ||| r : Nat) : Int)) (W := wr.drew) (g := w.heap.size) hbg (by omega)
        have hbw := (hBW.drew).setCell (p := ⟨w.heap.size, p, none⟩) (Nat.le_refl _) (.int .u8 ((z ||| r : Nat) : Int))
        have hrow2 : ∀ W : World, W.heap[w.heap.size]? = some (.cells (cur.setIfInBounds p (.int .u8 ((z ||| r : Nat) : Int))) 5 (0, 0)) → W.ownsRow w.heap.size 5 1 (.slice (some ⟨w.heap.size, 0, none⟩) N N) N (cellsB (outR true l (i + 1))) := fun W hW2 => by
          rw [HX.out]
          refine ⟨by rw [cellsB_len, List.length_set, hol]; omega, .inr ⟨w.heap.size, N, _, rfl, Nat.le_refl _, hW2, Nat.le_refl _, hcm, by simpa using hcs, ?_⟩⟩
          rw [Array.toList_setIfInBounds, List.take_set, ht]
          unfold cellsB
          rw [List.map_set]
        have H1 := Lib.hid hst
        have H2 := Lib.hid hbn
        have H3 := Lib.hid hbw
        have H4 := Lib.hid hrow2
        clear hst hbn hbw hrow2 hbo hbg hBW ht
        have wp : IntKind.i64.wrap (p : Int) = (p : Int) := IntWalk.i64_in _ (by omega)
        have b1 : (p : Int) < (N : Int) := by omega
        have b2 : (i : Int) < (l.length : Int) := by omega
        go_wp2_with fail
        go_still_tail 20, (by kernel_rfl)
        change wpList _ _ _ _ _ wr.drew
        go_wp2_with fail
        go_roundw
        case rel => exact ⟨i + 1, hlt, by go_num, H4.out _ H1.out, H2.out, H3.out⟩
        case measure => simp [intOf]; omega
      | false =>
        have hq : ∃ q, q = i % 8 := ⟨_, rfl⟩
        obtain ⟨q, hq⟩ := hq
        have hq8 : q < 8 := by omega
        have hqI : (i : Int) % 8 = (q : Int) := by omega
        have hpos : posB false (7 - i % 8) = q := by unfold posB; rw [if_neg (by decide)]; omega
        rw [hpos] at HX
        have hyt : y * 2 ^ q < 256 := by
          have h1 : 2 ^ q ≤ 2 ^ 7 := Nat.pow_le_pow_right (by omega) (by omega)
          have h2 : y * 2 ^ q ≤ 1 * 2 ^ q := Nat.mul_le_mul_right _ (by omega)
          omega
        have e3 : IntKind.u8.wrap ((y : Int) * 2 ^ q) = ((y * 2 ^ q : Nat) : Int) := by
          rw [show (y : Int) * 2 ^ q = ((y * 2 ^ q : Nat) : Int) by simp, IntKind.wrap_u8']
          omega
        have e4 : bits BinOp.or IntKind.u8 (z : Int) ((y * 2 ^ q : Nat) : Int) = ((z ||| y * 2 ^ q : Nat) : Int) := u8_or_nat z (y * 2 ^ q) hz8 hyt
        obtain ⟨r, hr⟩ : ∃ r, r = y * 2 ^ q := ⟨_, rfl⟩
        rw [← hr] at e3 e4 HX hyt
        clear hr hpos hq
        have hst := heap_set (i := p) (x := .int .u8 ((z ||| r : Nat) : Int)) (W := wr.drew) hbo
        have hbn := hp_oth (i := p) (v := .int .u8 ((z ||| r : Nat) : Int)) (W := wr.drew) (g := w.heap.size) hbg (by omega)
        have hbw := (hBW.drew).setCell (p := ⟨w.heap.size, p, none⟩) (Nat.le_refl _) (.int .u8 ((z ||| r : Nat) : Int))
        have hrow2 : ∀ W : World, W.heap[w.heap.size]? = some (.cells (cur.setIfInBounds p (.int .u8 ((z ||| r : Nat) : Int))) 5 (0, 0)) → W.ownsRow w.heap.size 5 1 (.slice (some ⟨w.heap.size, 0, none⟩) N N) N (cellsB (outR false l (i + 1))) := fun W hW2 => by
          rw [HX.out]
          refine ⟨by rw [cellsB_len, List.length_set, hol]; omega, .inr ⟨w.heap.size, N, _, rfl, Nat.le_refl _, hW2, Nat.le_refl _, hcm, by simpa using hcs, ?_⟩⟩
          rw [Array.toList_setIfInBounds, List.take_set, ht]
          unfold cellsB
          rw [List.map_set]
        have H1 := Lib.hid hst
        have H2 := Lib.hid hbn
        have H3 := Lib.hid hbw
        have H4 := Lib.hid hrow2
        clear hst hbn hbw hrow2 hbo hbg hBW ht
        have wp : IntKind.i64.wrap (p : Int) = (p : Int) := IntWalk.i64_in _ (by omega)
        have b1 : (p : Int) < (N : Int) := by omega
        have b2 : (i : Int) < (l.length : Int) := by omega
        go_wp2_with fail
        go_still_tail 20, (by kernel_rfl)
        change wpList _ _ _ _ _ wr.drew
        go_wp2_with fail
        go_roundw
        case rel => exact ⟨i + 1, hlt, by go_num, H4.out _ H1.out, H2.out, H3.out⟩
        case measure => simp [intOf]; omega
    · obtain rfl : l.length = i := by omega
      rw [outR_all] at hown
      have hlp := pack_len hi l
      rw [← HN.out] at hlp
      have HF := Lib.hid hown
      have HL := Lib.hid hlp
      clear hlp hown
      go_wp2_with fail
      go_ret
      exact ⟨_, rfl, by rw [HL.out]; exact HF.out, hBW⟩
theorem out_pk (g : Nat) (l : List Nat) (hi : Bool) (ob : Option Nat) (hl : l.length ≤ 500000) (w : World) (h : Pk g l hi ob w) :
    Calls Tryd.prog 21 #[.pointer (some ⟨g, 0, none⟩)] w fun e w' => ∃ A' cap', e = .returned (.slice A' (pack hi l).1.length cap') ∧ NewB w.heap.size w' (pack hi l).1.length A' cap' (fun i => ((pack hi l).1[i]?).getD 0) ∧ Below w.heap.size w w' := by
  refine (out_pkO g l hi ob hl w h).mono ?_
  rintro e w' ⟨v, rfl, hown, hB⟩
  rw [cellsB_cells8] at hown
  obtain ⟨A', cap', rfl, hN⟩ := NewB.of_own hown
  exact ⟨A', cap', rfl, hN, hB⟩
end Go.Proofs.YtdooefnckdklmaaDoor

namespace Go.Proofs.YtdooefnckdklmaaDoor
set_option maxRecDepth 100000
set_option linter.unusedVariables false
open Go.ChangeShapes Go.WideShapes Go.ChangeAt Go.RowKit

theorem zeroCells_one (z : Value) (n : Nat) : (Builtin.zeroCells #[z] n).toList = List.replicate n z := by
  refine List.ext_getElem (by simp [Builtin.zeroCells]) (fun i h1 h2 => ?_)
  simp [Builtin.zeroCells, Nat.mod_one]
/-- append of so many noughts to a row of one's own that is not nil. -/
theorem run_app0 {P : Program} {w : World} (base : Nat) (t tn ty e : TypeId) (i : TypeInfo) (z : Value) (bytes : Nat) (kn : IntKind) (ht : P.underlying t = some (.slice e)) (htn : P.underlying tn = some (.int kn)) (hi : P.info? e = some i) (hz : i.zero = some z)
    (hsize : i.size = 1) (hby : i.bytes = bytes) (hzs : z.cells = #[z]) (h1 : z.oneCell' = true)
    (g n cap : Nat) (xs : List Value) (hown : w.ownsRow base e 1 (.slice (some ⟨g, 0, none⟩) n cap) n xs) (m : Nat)
    (h63 : n + m ≤ maxLen) (hbytes : (n + m) * bytes ≤ 140737488355328) (hm : m < 4294967296) (hb1 : 1 ≤ bytes) (hbase : base ≤ w.heap.size) :
    ∃ g' cap' w', (Builtin.append_ #[t, tn] ty #[.slice (some ⟨g, 0, none⟩) n cap, .int .i64 m]).run P w = .ok (.slice (some ⟨g', 0, none⟩) (n + m) cap') w' ∧ w'.ownsRow base e 1 (.slice (some ⟨g', 0, none⟩) (n + m) cap') (n + m) (xs ++ List.replicate m z) ∧ w.grownBy w' (some g) ∧ (g' = g ∨ g' = w.heap.size) := by
  have hsmall : n + m ≤ 9223372036854775807 := by simp only [maxLen] at h63; omega
  have hmb : m * bytes ≤ 140737488355328 := Nat.le_trans (Nat.mul_le_mul_right _ (by omega)) hbytes
  obtain ⟨hl, hf⟩ := hown
  rcases hf with ⟨h0, _⟩ | ⟨g0, cap0, cur, he, hbg, hg, hnc, hcm, hcs, htake⟩
  · cases h0
  cases he
  have hzl : (Builtin.zeroCells z.cells m) = (List.replicate m z).toArray := by
    rw [hzs, ← zeroCells_one z m, Array.toArray_toList]
  have hlen : (xs ++ List.replicate m z).length = (n + m) * 1 := by rw [List.length_append, hl, List.length_replicate]; omega
  by_cases hroom : n + m ≤ cap
  · refine ⟨g, cap, w.setRow g (cur.toList.take (n * 1) ++ List.replicate m z ++ cur.toList.drop (n * 1 + m)).toArray, ?_, ⟨hlen, .inr ⟨g, cap, _, rfl, hbg, setRow_heap w g cur _ e _ hg, hroom, hcm, ?_, ?_⟩⟩, ⟨rfl, rfl, rfl, by simp, fun k _ hk => setRow_other w g k _ (fun e => hk (by rw [e]))⟩, .inl rfl⟩
    · have hw : IntKind.i64.wrap (m : Int) = m := by rw [IntKind.wrap_i64]; omega
      have hneg : ¬ ((m : Int) < 0) := by omega
      have h48i : ¬ (281474976710656 < (m : Int) * (i.bytes : Int)) := by
        rw [hby, ← Int.natCast_mul]
        omega
      have hst := run_storeCells_at P g (n * 1) e (List.replicate m z) 0 cur w hg (by rw [List.length_replicate]; omega) (fun v hv => by rw [(List.mem_replicate.1 hv).2]; exact h1)
      simp only [Nat.add_zero, List.length_replicate] at hst
      by_cases hm0 : m = 0
      · subst hm0
        have hw0 : IntKind.i64.wrap 0 = 0 := by rfl
        simp only [List.replicate_zero, Nat.add_zero] at hst ⊢
        simp [Builtin.append_, hw0, run_underlying ht, run_underlying htn, sizeOf, typeInfo, zeroValue, hi, hz, asInt, asIntOf, hsize, hnc, Addr.add_lit]
        simp at hst
        rw [hst]
        simp [Result.andThen]
      · simp [Builtin.append_, run_underlying ht, run_underlying htn, sizeOf, typeInfo, zeroValue, hi, hz, asInt, asIntOf, hw, hneg, h48i, hsize, hroom, hm0, Addr.add_lit, hzl]
        simp at hst
        rw [hst]
        simp [Result.andThen]
    · simp only [List.size_toArray, List.length_append, List.length_take, List.length_drop, Array.length_toList, List.length_replicate]
      omega
    · have hl2 : (n + m) * 1 = (xs ++ List.replicate m z).length := hlen.symm
      show ((cur.toList.take (n * 1) ++ List.replicate m z) ++ cur.toList.drop (n * 1 + m)).take ((n + m) * 1) = _
      rw [htake, hl2]
      exact List.take_left
  · have holds : ∀ j u, xs[j]? = some u → w.drew.cell? ((⟨g, 0, none⟩ : Addr).add j) = some u := fun j u hj => World.ownsRow.cells (w := w) (g := g) ⟨hl, .inr ⟨g, cap, cur, rfl, hbg, hg, hnc, hcm, hcs, htake⟩⟩ rfl j u hj
    have hold := run_firstCells_some (P := P) w.drew i.size n ⟨g, 0, none⟩ n cap xs (by rw [hsize]; exact hl) holds
    have hr := Lib.run_append_grow_zeros (P := P) w t tn ty e i z .i64 kn ht htn hi hz (some ⟨g, 0, none⟩) n cap xs hold m (by omega) (by omega) (by omega) (by omega) (by rw [hby]; omega) (by rw [hby]; exact growslice_fits (by omega) hbytes)
    have hge := grownCap_ge w (n + m) cap e
    have hcm2 : grownCap w (n + m) cap e ≤ maxLen := grownCap_le_maxLen w (n + m) cap e h63
    refine ⟨_, _, _, hr, ⟨hlen, .inr ⟨w.heap.size, _, _, rfl, hbase, heap_alloc_new w.drew _, hge, hcm2, ?_, ?_⟩⟩, ⟨rfl, rfl, rfl, by simp, fun k hk _ => heap_alloc_old w.drew _ hk⟩, .inr rfl⟩
    · simp only [Array.size_append, List.size_toArray, size_zeroCells, hzs, hl]
      simp
      omega
    · simp only [Array.toList_append, hzl, List.append_assoc]
      rw [← List.append_assoc, ← hlen]
      exact List.take_left
section
variable {g : Nat} {o : List Nat} {ob : Option Nat} {w w' : World} {S : List Nat}
end
/-- A number's bytes, the lowest first. -/
def leB (n k : Nat) : List Nat := (List.range k).map fun i => n / 2 ^ (8 * i) % 256
theorem leB_len (n k : Nat) : (leB n k).length = k := by simp [leB]
theorem leB_lt (n k : Nat) : ∀ x ∈ leB n k, x < 256 := by
  intro x hx
  obtain ⟨i, _, rfl⟩ := List.mem_map.1 hx
  exact Nat.mod_lt _ (by omega)
theorem leB_snoc (n k : Nat) : leB n (k + 1) = leB n k ++ [n / 2 ^ (8 * k) % 256] := by simp [leB, List.range_succ]
theorem app_lt8 {l m : List Nat} (h : ∀ x ∈ l, x < 256) (k : ∀ x ∈ m, x < 256) : ∀ x ∈ l ++ m, x < 256 := fun x hx => (List.mem_append.1 hx).elim (h x) (k x)
theorem div_bd (n q : Nat) (hn : n < 4398046511104) : 0 ≤ (n : Int) / 2 ^ q ∧ (n : Int) / 2 ^ q ≤ 4398046511104 := by
  rw [show (n : Int) / 2 ^ q = ((n / 2 ^ q : Nat) : Int) by simp]
  have := Nat.div_le_self n (2 ^ q)
  generalize n / 2 ^ q = y at *
  omega
theorem kp_alloc1 {W : World} {a : Addr} {v : Value} (h : W.drew.cell? a = some v) (o : Obj) : (W.alloc o).drew.cell? a = some v := by
  have h2 : W.cell? a = some v := h
  have h3 : (W.alloc o).cell? a = some v := by rw [World.cell?_alloc_lt _ _ _ (lt_of_cell h2)]; exact h2
  exact h3
end Go.Proofs.YtdooefnckdklmaaDoor
