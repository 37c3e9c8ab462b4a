/- Bits written from the highest of each byte on; what was written. -/
import Derived.Test.YtioghgnngdcicaaPut
namespace Go.Proofs.Ytioghgnngdcicaa
set_option linter.unusedVariables false
open Go.ChangeShapes Go.WideShapes Go.ChangeAt Go.RowKit

/-- The bytes behind k bits. -/
def stepH (x : Int) (i : Nat) (o : List Nat) (fr : Nat) : List Nat := orLast (roomO o fr) (bitX x i * 2 ^ roomF fr)
def putsH (x : Int) (n : Nat) (o : List Nat) (fr : Nat) : Nat → List Nat × Nat
  | 0 => (o, fr)
  | k + 1 => (stepH x (n - 1 - k) (putsH x n o fr k).1 (putsH x n o fr k).2, roomF (putsH x n o fr k).2)
theorem puth_len (x : Int) (n : Nat) (o : List Nat) (fr : Nat) (k : Nat) : (putsH x n o fr k).1.length ≤ o.length + k := by
  induction k with
  | zero => simp [putsH]
  | succ k ih =>
    have h := roomO_len (putsH x n o fr k).1 (putsH x n o fr k).2
    simp only [putsH, stepH, orLast, List.length_set]
    omega
end Go.Proofs.Ytioghgnngdcicaa
