/- Rows of bytes as strings. -/
import Derived.Test.YtioghgnngdcicaaObj
import Derived.Laws.BytesArg
namespace Go.Proofs.Ytioghgnngdcicaa
set_option linter.unusedVariables false
open Go.ChangeShapes Go.WideShapes Go.ChangeAt Go.RowKit

def strB (m : Nat) (d : Nat → Nat) : ByteArray := strOfNums ((List.range m).map fun i => ((d i : Nat) : Int))
theorem ba_beq (s : ByteArray) : (s == s) = true := by
  cases s with | mk d =>
  show (d == d) = true
  exact beq_iff_eq.2 rfl
theorem strB_congr {m : Nat} {d d' : Nat → Nat} (h : ∀ i, i < m → d i = d' i) : strB m d = strB m d' := by
  unfold strB
  congr 1
  apply List.map_congr_left
  intro i hi
  rw [h i (by simpa using hi)]
theorem run_str {w : World} {A : Option Addr} {m cap : Nat} {d : Nat → Nat} (h : Byt w A m d) :
    (convert 22 9 (.slice A m cap)).run Try.prog w = .ok (.string (strB m d)) w := by
  by_cases hm : 0 < m
  · obtain ⟨bk, off, rfl, _, hc⟩ := h hm
    exact run_convert_bytes_arg w 22 5 Try.underlying22 Try.underlying5 bk off m cap ((List.range m).map fun i => ((d i : Nat) : Int)) (by simp)
      (fun i hi => by rw [hc i hi]; simp [List.getD_eq_getElem?_getD, hi]) 9 Try.underlying9
  · obtain rfl : m = 0 := by omega
    cases A with
    | none => exact run_convert_bytes_nil w 22 5 Try.underlying22 Try.underlying5 0 cap 9 Try.underlying9
    | some a =>
      rw [run_convert_bytes_string w 22 9 5 _ 0 cap Try.underlying22 Try.underlying5 Try.underlying9]
      exact run_bytesToString w a 0 cap [] (run_loadCells_list (P := Try.prog) w a [] (fun j v hj => by simp at hj))
end Go.Proofs.Ytioghgnngdcicaa
