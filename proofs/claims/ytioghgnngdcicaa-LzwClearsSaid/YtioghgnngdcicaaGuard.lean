/- bits.Guard, by the closure's contract; worlds that turn in few blocks. -/
import Derived.Test.YtioghgnngdcicaaMem
import Derived.Test.YtioghgnngdcicaaProg
import Derived.Defers
import Derived.Recover
import Derived.WalkLawsBesides
namespace Go.Proofs.Ytioghgnngdcicaa
set_option linter.unusedVariables false
open Go.RowKit
/-- k's body is entered with what it captured. -/
def Enters (k : FuncId) (caps : Array Value) : Prop := ∀ W : World, (callFunc k caps).run Try.prog W = .ok (.enter k caps) W
end Go.Proofs.Ytioghgnngdcicaa
