/- bits.Guard, by the closure's contract; worlds that turn in few blocks. Worlds that turn in few blocks; rows of bytes; a reader of bits lies in memory. -/
import Derived.Test.YthgafdbdmemkhaaDoorM9
import Derived.Test.YthgafdbdmemkhaaDoorProg
import Derived.Defers
import Derived.Recover
import Derived.WalkLawsBesides
import Derived.Test.YthgafdbdmemkhaaDoorRows
import Derived.WalkKit
import Derived.ProofKit
import Derived.OpenShut
import Derived.WalkSpells
import Derived.Outline
import Derived.Lib.Hide
import Derived.Deep.QuietTactic
import Derived.BigQuiet
namespace Go.Proofs.YthgafdbdmemkhaaDoor
set_option maxRecDepth 100000
set_option linter.unusedVariables false
open Go.RowKit
/-- k's body is entered with what it captured. -/
def Enters (k : FuncId) (caps : Array Value) : Prop := ∀ W : World, (callFunc k caps).run Tryd.prog W = .ok (.enter k caps) W
end Go.Proofs.YthgafdbdmemkhaaDoor

namespace Go.Proofs.YthgafdbdmemkhaaDoor
set_option maxRecDepth 100000
set_option linter.unusedVariables false
open Go.ChangeShapes Go.WideShapes Go.ChangeAt Go.RowKit
section
variable {S : List Nat} {w w' w'' : World}
end
/-- A reader's row: n bytes b, at bits of them read. -/
structure Rd (T : TypeId) (g : Nat) (A : Option Addr) (n cap : Nat) (b : Nat → Nat) (p : Nat) (vo : Value) (fr : Int) (w : World) : Prop where
  box : w.heap[g]? = some (.cells #[.slice A n cap, vo, .int .i64 (p : Nat), .int .i64 fr] T (0, 0))
  byt : Byt w A n b
  off : 0 < n → Off A [g]
section
variable {T : TypeId} {g : Nat} {A : Option Addr} {n cap : Nat} {b : Nat → Nat} {p : Nat} {vo : Value} {fr : Int} {w w' : World}
theorem Rd.chg {S : List Nat} (h : Rd T g A n cap b p vo fr w) (hc : Chg S w w') (hg : g ∉ S) (hA : 0 < n → Off A S) : Rd T g A n cap b p vo fr w' :=
  ⟨hp_chg h.box hc hg, h.byt.chg hc hA, h.off⟩
theorem Rd.alloc (h : Rd T g A n cap b p vo fr w) (o : Obj) : Rd T g A n cap b p vo fr (w.alloc o) :=
  h.chg ((Chg.refl [] w).alloc o) (by simp) (fun _ _ _ => by simp)
theorem Rd.move (h : Rd T g A n cap b p vo fr w) {q : Nat} (hc : Chg [g] w w') (hb : w'.heap[g]? = some (.cells #[.slice A n cap, vo, .int .i64 (q : Nat), .int .i64 fr] T (0, 0))) : Rd T g A n cap b q vo fr w' :=
  ⟨hb, h.byt.chg hc h.off, h.off⟩
end
def bitL (b : Nat → Nat) (k : Nat) : Nat := b (k / 8) / 2 ^ (k % 8) % 2
def bitH (b : Nat → Nat) (k : Nat) : Nat := b (k / 8) / 2 ^ (7 - k % 8) % 2

end Go.Proofs.YthgafdbdmemkhaaDoor
