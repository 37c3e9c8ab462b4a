/- Align, Bytes of a reader from the lowest bit; the reference's Align; the closures of BitsLow. -/
import Derived.Test.YtioghgnngdcicaaAw1
import Derived.Test.YtioghgnngdcicaaStrB
import Derived.StillTailTactics
namespace Go.Proofs.Ytioghgnngdcicaa
set_option linter.unusedVariables false
open Go.ChangeShapes Go.WideShapes Go.ChangeAt Go.RowKit

theorem run_quo8' (p : Nat) (hp : p < 1000000000) : ((p : Int) + 7) / 8 * 8 = (((p + 7) / 8 * 8 : Nat) : Int) := by omega
def up8 (p : Nat) : Nat := (p + 7) / 8 * 8
theorem up8_le {p n : Nat} (h : p ≤ 8 * n) : up8 p ≤ 8 * n := by unfold up8; omega
section
variable (g : Nat) (A : Option Addr) (n cap : Nat) (b : Nat → Nat) (p : Nat) (hn : n ≤ 1000000)
end
end Go.Proofs.Ytioghgnngdcicaa
