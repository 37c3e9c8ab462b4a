/- The plain part of PaletteBack and PaletteOrder. -/
import Derived.Test.YtnjlklcggcfcgaaAw10
namespace Go.Proofs.Ytnjlklcggcfcgaa
set_option linter.unusedVariables false
open Go.ChangeShapes Go.WideShapes Go.ChangeAt Go.RowKit

theorem U_app (c : Nat → Nat) (i k : Nat) : ∃ t, U c (i + k) = U c i ++ t := by
  induction k with
  | zero => exact ⟨[], by simp⟩
  | succ k ih =>
    obtain ⟨t, ht⟩ := ih
    have e : U c (i + (k + 1)) = U c (i + k + 1) := rfl
    rw [e, U_succ, ht]
    split
    · exact ⟨t, rfl⟩
    · exact ⟨t ++ [p4 c (i + k)], by rw [List.append_assoc]⟩
theorem U_get {c : Nat → Nat} {i N : Nat} (h : i < N) : (U c N)[(U c i).idxOf (p4 c i)]? = some (p4 c i) := by
  have h1 : (U c (i + 1))[(U c i).idxOf (p4 c i)]? = some (p4 c i) := by
    rw [U_succ]
    split
    · rename_i hm
      rw [List.getElem?_eq_getElem (List.idxOf_lt_length_of_mem hm), List.getElem_idxOf]
    · rename_i hm
      rw [List.idxOf_eq_length hm]
      simp
  obtain ⟨k, rfl⟩ := Nat.le.dest (show i + 1 ≤ N from h)
  obtain ⟨t, ht⟩ := U_app c (i + 1) k
  rw [ht, List.getElem?_append_left (List.getElem?_eq_some_iff.1 h1).1, h1]
theorem U_mem {c : Nat → Nat} {N : Nat} {q : P4} (h : q ∈ U c N) : ∃ i, i < N ∧ q = p4 c i := by
  induction N with
  | zero => simp [U, ll, uni] at h
  | succ N ih =>
    rw [U_succ] at h
    split at h
    · obtain ⟨i, hi, e⟩ := ih h
      exact ⟨i, by omega, e⟩
    · rcases List.mem_append.1 h with h | h
      · obtain ⟨i, hi, e⟩ := ih h
        exact ⟨i, by omega, e⟩
      · exact ⟨N, by omega, by simpa using h⟩
theorem pl_get {c : Nat → Nat} {i N : Nat} (h : i < N) : (pl c N)[i]? = some ((U c i).idxOf (p4 c i)) := by simp [pl, h]
theorem idx_lt {c : Nat → Nat} {i N : Nat} (h : i < N) : (U c i).idxOf (p4 c i) < (U c N).length := (List.getElem?_eq_some_iff.1 (U_get h)).1
theorem place {c : Nat → Nat} {i N : Nat} (h : i < N) (h2 : (U c N).length ≤ 256) : byteAt (pl c N) i = (U c i).idxOf (p4 c i) := by
  have h3 := idx_lt (c := c) h
  unfold byteAt
  rw [pl_get h]
  exact Nat.mod_eq_of_lt (by simp only [Option.getD_some]; omega)
theorem draw_c {c : Nat → Nat} {N j : Nat} (h : j < 4 * N) (h2 : (U c N).length ≤ 256) : drawC (U c N) (byteAt (pl c N)) j = c j := by
  have hi : j / 4 < N := by omega
  unfold drawC colAt
  rw [place hi h2, U_get hi]
  simp only [Option.getD_some, p4, part4]
  obtain h0 | h0 | h0 | h0 : j % 4 = 0 ∨ j % 4 = 1 ∨ j % 4 = 2 ∨ j % 4 = 3 := by omega
  all_goals
    rw [h0]
    simp
    congr 1
    omega
theorem fit_ok {a b : Int} {N : Nat} {c : Nat → Nat} (hc : ∀ i, c i < 65536) (h : fitsB a b (4 * N) c 2 = true) : mayB a b (4 * N) = true ∧ (∀ i, i < N → okPix c i) ∧ (∀ j, j < 4 * N → c j % 257 = 0) ∧ (U c N).length ≤ 256 := by
  have hm := fits_may h
  simp only [fitsB, Bool.and_eq_true, Bool.or_eq_true, decide_eq_true_eq, Nat.mul_div_cancel_left N (show 0 < 4 by omega)] at h
  obtain ⟨_, (h | h) | h⟩ := h
  · exact absurd h (by decide)
  · exact absurd h.1 (by decide)
  · obtain ⟨_, h1, h2, h3⟩ := h
    rw [colB_U hc] at h1
    exact ⟨hm, clear_iff.1 h3, bytes_iff.1 h2, by have := of_decide_eq_true h1; omega⟩
theorem fit_mk {a b : Int} {N : Nat} {c : Nat → Nat} (hc : ∀ i, c i < 65536) (h : mayB a b (4 * N) = true) (h1 : ∀ i, i < N → okPix c i) (h2 : ∀ j, j < 4 * N → c j % 257 = 0) (h3 : (U c N).length ≤ 256) : fitsB a b (4 * N) c 2 = true := by
  simp only [fitsB, h, Nat.mul_div_cancel_left N (show 0 < 4 by omega), clear_iff.2 h1, bytes_iff.2 h2, colB_U hc]
  simp
  omega
theorem drawE_back {a b : Int} {N : Nat} {c : Nat → Nat} (hm : mayB a b (4 * N) = true) (h2 : (U c N).length ≤ 256) : drawE a b N (U c N) (byteAt (pl c N)) = 0 := by
  obtain ⟨hz, hab⟩ := may_ok hm
  have e : a * b = (N : Int) := by rw [Int.mul_assoc] at hab; omega
  unfold drawE
  rw [if_neg (by simp [hz]), e, if_neg (by omega), if_neg (by omega), if_neg]
  rw [bad_f (fun i hi => by rw [place hi h2]; exact idx_lt hi)]
  simp
theorem same_back {a b : Int} {N : Nat} {c : Nat → Nat} (hm : mayB a b (4 * N) = true) (h2 : (U c N).length ≤ 256) : sameB a b (4 * N) (drawC (U c N) (byteAt (pl c N))) a b (4 * N) c = true := by
  simp only [sameB, hm, Bool.true_and, decide_true, allEq_iff]
  exact fun j hj => draw_c hj h2
theorem U_seen {c : Nat → Nat} {i : Nat} : (U c i).idxOf (p4 c i) ≤ (U c i).length ∧ (U c (i + 1)).length = if (U c i).idxOf (p4 c i) = (U c i).length then (U c i).length + 1 else (U c i).length := by
  refine ⟨List.idxOf_le_length, ?_⟩
  rw [U_succ]
  by_cases hm : p4 c i ∈ U c i
  · have := List.idxOf_lt_length_of_mem hm
    rw [if_pos hm, if_neg (by omega)]
  · rw [if_neg hm, if_pos (List.idxOf_eq_length hm)]
    simp
theorem U_alpha {c : Nat → Nat} {N : Nat} (h : ∀ i, i < N → okPix c i) {q : P4} (hq : q ∈ U c N) : q.2.2.2 = 0 ↔ q = (0, 0, 0, 0) := by
  obtain ⟨i, hi, rfl⟩ := U_mem hq
  have h1 := okPix_iff.1 (h i hi)
  simp only [p4, Prod.mk.injEq]
  omega
theorem clear_at {L : List P4} (hL : L.Nodup) {k : Nat} {q : P4} (hq : L[k]? = some q) : (k : Int) = clearIx L ↔ q = (0, 0, 0, 0) := by
  have hk := (List.getElem?_eq_some_iff.1 hq).1
  have he := (List.getElem?_eq_some_iff.1 hq).2
  unfold clearIx
  constructor
  · intro h
    split at h
    · rename_i hm
      have e : k = L.idxOf (0, 0, 0, 0) := by omega
      subst e
      rw [← he, List.getElem_idxOf]
    · omega
  · rintro rfl
    have hm : ((0, 0, 0, 0) : P4) ∈ L := by rw [← he]; exact List.getElem_mem hk
    rw [if_pos hm]
    have h1 := idx_found (l := L) (p := (0, 0, 0, 0)) (k := k) hq (fun j hj e => by
      have hj2 := (List.getElem?_eq_some_iff.1 e).1
      have he2 := (List.getElem?_eq_some_iff.1 e).2
      exact (List.pairwise_iff_getElem.1 hL j k hj2 hk hj) (he2.trans he.symm))
    rw [h1.1]
theorem U_nodup (c : Nat → Nat) (N : Nat) : (U c N).Nodup := uni_nodup' _
theorem U_ne {L : List P4} (hL : L.Nodup) {i k : Nat} {p q : P4} (hi : L[i]? = some p) (hk : L[k]? = some q) (h : k < i) : ¬p = q := by
  intro e
  have h1 := (List.getElem?_eq_some_iff.1 hi)
  have h2 := (List.getElem?_eq_some_iff.1 hk)
  exact (List.pairwise_iff_getElem.1 hL k i h2.1 h1.1 h) (h2.2.trans (e.symm.trans h1.2.symm))
end Go.Proofs.Ytnjlklcggcfcgaa
