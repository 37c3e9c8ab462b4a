/-
  DERIVED. GIVEN WITH THE SEED: THE CARDS: each row of YthgafdbdmemkhaaDoorRows.lean that lists a variable, with what it lists TIED to the program's text (the seventh form; the later family's looks); each row that meets fmt, with fmt's text TOLD by the authors' own Lean function (tested against real Go, not proved from fmt's source: count such statements apart). THE CARD IS WHAT COUNTS. Prove the row's statement (the work); the ties are given (YthgafdbdmemkhaaDoorTie.lean); close each card by the builder's one call (the guide's Derived/Test/ToyasCard.lean, 'card_holds'). Laid BY PROGRAM, IN A SANDBOX (cutbox-door.mjs). By AI agents, Wed Nov 11 2026. No macro, syntax, notation, axiom, sorry.
-/
import Derived.Test.YthgafdbdmemkhaaDoorRows
import GoSem.ClaimSeven
namespace Go.Proofs.YthgafdbdmemkhaaDoor
namespace Rows

/-- THE TIED CARD OF 'engraverlaw19.BmpwriteBack'. -/
def bmpwriteBackCard : Claim7 := { stood := { row := bmpwriteBackRow, standIns := [], harness := (true, "28e8ec4a8e1892ffa726cbda6cab9a5ba379dbce3b8bea5b6bef52ff532eb958"), looks := true }, kinds := [], alts := [], laidByText := true, laidKinds := [.data], laidTests := true, laidLooks := .later }
def BmpwriteBackCardSaid : Prop := Claim7.holds Tryd.pinned (.plain (OpenSpec.ofChange bmpwriteBackSpec)) bmpwriteBackCard

/-- THE SECOND FORM's CARD OF 'engraverlaw19.BmpwriteBack'. -/
def bmpwriteBackUptoCard : Claim7 := { stood := { row := bmpwriteBackUptoRow, standIns := [], harness := (true, "28e8ec4a8e1892ffa726cbda6cab9a5ba379dbce3b8bea5b6bef52ff532eb958"), looks := true }, kinds := [], alts := [], laidByText := true, laidKinds := [.data], laidTests := true, laidLooks := .later }
def BmpwriteBackUptoCardSaid : Prop := Claim7.holds Tryd.pinned (.plain (OpenSpec.upto bmpwriteBackSpec)) bmpwriteBackUptoCard
end Rows
end Go.Proofs.YthgafdbdmemkhaaDoor
