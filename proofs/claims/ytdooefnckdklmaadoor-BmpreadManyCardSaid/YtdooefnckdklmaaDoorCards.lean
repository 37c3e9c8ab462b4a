/-
  DERIVED. GIVEN WITH THE SEED: THE CARDS: each row of YtdooefnckdklmaaDoorRows.lean that lists a variable, with what it lists TIED to the program's text (the seventh form; the later family's looks); each row that meets fmt, with fmt's text TOLD by the authors' own Lean function (tested against real Go, not proved from fmt's source: count such statements apart). THE CARD IS WHAT COUNTS. Prove the row's statement (the work); the ties are given (YtdooefnckdklmaaDoorTie.lean); close each card by the builder's one call (the guide's Derived/Test/ToyasCard.lean, 'card_holds'). Laid BY PROGRAM, IN A SANDBOX (cutbox-door.mjs). By AI agents, Wed Nov 11 2026. No macro, syntax, notation, axiom, sorry.
-/
import Derived.Test.YtdooefnckdklmaaDoorRows
import GoSem.ClaimSeven
namespace Go.Proofs.YtdooefnckdklmaaDoor
namespace Rows

/-- THE TIED CARD OF 'engraverlaw18.BmpreadDecodes'. -/
def bmpreadDecodesCard : Claim7 := { stood := { row := bmpreadDecodesRow, standIns := [], harness := (true, "3bad10fe68b94d1ac2a033c941c62cfc7013d98e45426f1bc99716a279238c47"), looks := true }, kinds := [], alts := [], laidByText := true, laidKinds := [.data], laidTests := true, laidLooks := .later }
def BmpreadDecodesCardSaid : Prop := Claim7.holds Tryd.pinned (.plain (OpenSpec.ofChange bmpreadDecodesSpec)) bmpreadDecodesCard

/-- THE TIED CARD OF 'engraverlaw18.BmpreadMasks'. -/
def bmpreadMasksCard : Claim7 := { stood := { row := bmpreadMasksRow, standIns := [], harness := (true, "3bad10fe68b94d1ac2a033c941c62cfc7013d98e45426f1bc99716a279238c47"), looks := true }, kinds := [], alts := [], laidByText := true, laidKinds := [.data], laidTests := true, laidLooks := .later }
def BmpreadMasksCardSaid : Prop := Claim7.holds Tryd.pinned (.plain (OpenSpec.ofChange bmpreadMasksSpec)) bmpreadMasksCard

/-- THE TIED CARD OF 'engraverlaw18.BmpreadPlain'. -/
def bmpreadPlainCard : Claim7 := { stood := { row := bmpreadPlainRow, standIns := [], harness := (true, "3bad10fe68b94d1ac2a033c941c62cfc7013d98e45426f1bc99716a279238c47"), looks := true }, kinds := [], alts := [], laidByText := true, laidKinds := [.data], laidTests := true, laidLooks := .later }
def BmpreadPlainCardSaid : Prop := Claim7.holds Tryd.pinned (.plain (OpenSpec.ofChange bmpreadPlainSpec)) bmpreadPlainCard

/-- THE TIED CARD OF 'engraverlaw18.BmpreadRuns'. -/
def bmpreadRunsCard : Claim7 := { stood := { row := bmpreadRunsRow, standIns := [], harness := (true, "3bad10fe68b94d1ac2a033c941c62cfc7013d98e45426f1bc99716a279238c47"), looks := true }, kinds := [], alts := [], laidByText := true, laidKinds := [.data], laidTests := true, laidLooks := .later }
def BmpreadRunsCardSaid : Prop := Claim7.holds Tryd.pinned (.plain (OpenSpec.ofChange bmpreadRunsSpec)) bmpreadRunsCard

/-- THE TIED CARD OF 'engraverlaw18.BmpreadSmall'. -/
def bmpreadSmallCard : Claim7 := { stood := { row := bmpreadSmallRow, standIns := [], harness := (true, "3bad10fe68b94d1ac2a033c941c62cfc7013d98e45426f1bc99716a279238c47"), looks := true }, kinds := [], alts := [], laidByText := true, laidKinds := [.data], laidTests := true, laidLooks := .later }
def BmpreadSmallCardSaid : Prop := Claim7.holds Tryd.pinned (.plain (OpenSpec.ofChange bmpreadSmallSpec)) bmpreadSmallCard

/-- THE TIED CARD OF 'engraverlaw18.BmpreadMany'. -/
def bmpreadManyCard : Claim7 := { stood := { row := bmpreadManyRow, standIns := [], harness := (true, "3bad10fe68b94d1ac2a033c941c62cfc7013d98e45426f1bc99716a279238c47"), looks := true }, kinds := [], alts := [], laidByText := true, laidKinds := [.data], laidTests := true, laidLooks := .later }
def BmpreadManyCardSaid : Prop := Claim7.holds Tryd.pinned (.plain (OpenSpec.ofChange bmpreadManySpec)) bmpreadManyCard

/-- THE TIED CARD OF 'engraverlaw18.BmpreadTold'. -/
def bmpreadToldCard : Claim7 := { stood := { row := bmpreadToldRow, standIns := [], harness := (true, "3bad10fe68b94d1ac2a033c941c62cfc7013d98e45426f1bc99716a279238c47"), looks := true }, kinds := [], alts := [], laidByText := true, laidKinds := [.data], laidTests := true, laidLooks := .later }
def BmpreadToldCardSaid : Prop := Claim7.holds Tryd.pinned (.plain (OpenSpec.ofChange bmpreadToldSpec)) bmpreadToldCard

/-- THE SECOND FORM's CARD OF 'engraverlaw18.BmpreadDecodes'. -/
def bmpreadDecodesUptoCard : Claim7 := { stood := { row := bmpreadDecodesUptoRow, standIns := [], harness := (true, "3bad10fe68b94d1ac2a033c941c62cfc7013d98e45426f1bc99716a279238c47"), looks := true }, kinds := [], alts := [], laidByText := true, laidKinds := [.data], laidTests := true, laidLooks := .later }
def BmpreadDecodesUptoCardSaid : Prop := Claim7.holds Tryd.pinned (.plain (OpenSpec.upto bmpreadDecodesSpec)) bmpreadDecodesUptoCard

/-- THE SECOND FORM's CARD OF 'engraverlaw18.BmpreadMasks'. -/
def bmpreadMasksUptoCard : Claim7 := { stood := { row := bmpreadMasksUptoRow, standIns := [], harness := (true, "3bad10fe68b94d1ac2a033c941c62cfc7013d98e45426f1bc99716a279238c47"), looks := true }, kinds := [], alts := [], laidByText := true, laidKinds := [.data], laidTests := true, laidLooks := .later }
def BmpreadMasksUptoCardSaid : Prop := Claim7.holds Tryd.pinned (.plain (OpenSpec.upto bmpreadMasksSpec)) bmpreadMasksUptoCard

/-- THE SECOND FORM's CARD OF 'engraverlaw18.BmpreadPlain'. -/
def bmpreadPlainUptoCard : Claim7 := { stood := { row := bmpreadPlainUptoRow, standIns := [], harness := (true, "3bad10fe68b94d1ac2a033c941c62cfc7013d98e45426f1bc99716a279238c47"), looks := true }, kinds := [], alts := [], laidByText := true, laidKinds := [.data], laidTests := true, laidLooks := .later }
def BmpreadPlainUptoCardSaid : Prop := Claim7.holds Tryd.pinned (.plain (OpenSpec.upto bmpreadPlainSpec)) bmpreadPlainUptoCard

/-- THE SECOND FORM's CARD OF 'engraverlaw18.BmpreadRuns'. -/
def bmpreadRunsUptoCard : Claim7 := { stood := { row := bmpreadRunsUptoRow, standIns := [], harness := (true, "3bad10fe68b94d1ac2a033c941c62cfc7013d98e45426f1bc99716a279238c47"), looks := true }, kinds := [], alts := [], laidByText := true, laidKinds := [.data], laidTests := true, laidLooks := .later }
def BmpreadRunsUptoCardSaid : Prop := Claim7.holds Tryd.pinned (.plain (OpenSpec.upto bmpreadRunsSpec)) bmpreadRunsUptoCard

/-- THE SECOND FORM's CARD OF 'engraverlaw18.BmpreadSmall'. -/
def bmpreadSmallUptoCard : Claim7 := { stood := { row := bmpreadSmallUptoRow, standIns := [], harness := (true, "3bad10fe68b94d1ac2a033c941c62cfc7013d98e45426f1bc99716a279238c47"), looks := true }, kinds := [], alts := [], laidByText := true, laidKinds := [.data], laidTests := true, laidLooks := .later }
def BmpreadSmallUptoCardSaid : Prop := Claim7.holds Tryd.pinned (.plain (OpenSpec.upto bmpreadSmallSpec)) bmpreadSmallUptoCard

/-- THE SECOND FORM's CARD OF 'engraverlaw18.BmpreadMany'. -/
def bmpreadManyUptoCard : Claim7 := { stood := { row := bmpreadManyUptoRow, standIns := [], harness := (true, "3bad10fe68b94d1ac2a033c941c62cfc7013d98e45426f1bc99716a279238c47"), looks := true }, kinds := [], alts := [], laidByText := true, laidKinds := [.data], laidTests := true, laidLooks := .later }
def BmpreadManyUptoCardSaid : Prop := Claim7.holds Tryd.pinned (.plain (OpenSpec.upto bmpreadManySpec)) bmpreadManyUptoCard

/-- THE SECOND FORM's CARD OF 'engraverlaw18.BmpreadTold'. -/
def bmpreadToldUptoCard : Claim7 := { stood := { row := bmpreadToldUptoRow, standIns := [], harness := (true, "3bad10fe68b94d1ac2a033c941c62cfc7013d98e45426f1bc99716a279238c47"), looks := true }, kinds := [], alts := [], laidByText := true, laidKinds := [.data], laidTests := true, laidLooks := .later }
def BmpreadToldUptoCardSaid : Prop := Claim7.holds Tryd.pinned (.plain (OpenSpec.upto bmpreadToldSpec)) bmpreadToldUptoCard
end Rows
end Go.Proofs.YtdooefnckdklmaaDoor
