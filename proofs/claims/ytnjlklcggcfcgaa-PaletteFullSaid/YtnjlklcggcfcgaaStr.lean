/- Rows of bytes as strings; rows of a palette. -/
import Derived.Test.YtnjlklcggcfcgaaDraw
import Derived.Test.YtnjlklcggcfcgaaMake
import Derived.Laws.BytesArg
namespace Go.Proofs.Ytnjlklcggcfcgaa
set_option linter.unusedVariables false
open Go.ChangeShapes Go.WideShapes Go.ChangeAt Go.RowKit

def strB (m : Nat) (d : Nat → Nat) : ByteArray := strOfNums ((List.range m).map fun i => ((d i : Nat) : Int))
theorem ba_beq (s : ByteArray) : (s == s) = true := by
  cases s with | mk d =>
  show (d == d) = true
  exact beq_iff_eq.2 rfl
theorem strB_congr {m : Nat} {d d' : Nat → Nat} (h : ∀ i, i < m → d i = d' i) : strB m d = strB m d' := by
  unfold strB
  congr 1
  apply List.map_congr_left
  intro i hi
  rw [h i (by simpa using hi)]
theorem run_str {w : World} {A : Option Addr} {m cap : Nat} {d : Nat → Nat} (h : Byt w A m d) :
    (convert 29 9 (.slice A m cap)).run Try.prog w = .ok (.string (strB m d)) w := by
  by_cases hm : 0 < m
  · obtain ⟨bk, off, rfl, _, hc⟩ := h hm
    exact run_convert_bytes_arg w 29 5 Try.underlying29 Try.underlying5 bk off m cap ((List.range m).map fun i => ((d i : Nat) : Int)) (by simp)
      (fun i hi => by rw [hc i hi]; simp [List.getD_eq_getElem?_getD, hi]) 9 Try.underlying9
  · obtain rfl : m = 0 := by omega
    cases A with
    | none => exact run_convert_bytes_nil w 29 5 Try.underlying29 Try.underlying5 0 cap 9 Try.underlying9
    | some a =>
      rw [run_convert_bytes_string w 29 9 5 _ 0 cap Try.underlying29 Try.underlying5 Try.underlying9]
      exact run_bytesToString w a 0 cap [] (run_loadCells_list (P := Try.prog) w a [] (fun j v hj => by simp at hj))
def byteAt (l : List Nat) (i : Nat) : Nat := (l[i]?).getD 0 % 256
theorem byteAt_lt (l : List Nat) (i : Nat) : byteAt l i < 256 := Nat.mod_lt _ (by omega)
theorem byt_of_own {w : World} {base n : Nat} {v : Value} {l : List Nat} (h : w.ownsRow base 5 1 v n (byteL l)) : ∃ A cap, v = .slice A n cap ∧ n ≤ cap ∧ cap ≤ maxLen ∧ Byt w A n (byteAt l) := by
  obtain ⟨hl, A, cap, rfl, h1, h2, h3⟩ := Sl.of_own h
  refine ⟨A, cap, rfl, h1, h2, fun hn => ?_⟩
  obtain ⟨b, off, rfl, hlt, hc⟩ := h3 (by omega)
  refine ⟨b, off, rfl, hlt, fun j hj => ?_⟩
  rw [hc j (by omega)]
  have hj2 : j < l.length := by simp [byteL] at hl; omega
  simp [byteL, byteAt, hj2]
theorem sl_of_own {w : World} {base size n : Nat} {e : TypeId} {v : Value} {xs : List Value} (h : w.ownsRow base e size v n xs) : ∃ A cap, v = .slice A n cap ∧ n ≤ cap ∧ cap ≤ maxLen ∧ Sl w (.slice A n cap) size n xs := by
  have h0 := Sl.of_own h
  obtain ⟨hl, A, cap, rfl, h1, h2, h3⟩ := h0
  exact ⟨A, cap, rfl, h1, h2, Sl.of_own h⟩
end Go.Proofs.Ytnjlklcggcfcgaa
