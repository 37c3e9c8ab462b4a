/-
  No cell of these rows narrows 'for every input' (looked for: loops, veiled, ifaces, maps, wideKeys, modest, calm, conditions, laid).
  DERIVED. THE GIVEN ROWS OF THIS SEAT. 6 by the template 'for every input the law returns true; each argument reads behind the call as it read before'; 0 by the template 'total and deterministic' (their statements: YtnjlklcggcfcgaaTotals.lean).
  GIVEN WITH THE SEED: the statements are not yours to turn. If you find one false, say at which input.
  Laid BY PROGRAM, IN A SANDBOX (cutbox-rows.mjs): the forced cells as the released guide's own fill.sh prints them over the translation adfe9b3b5d5a90ed… (all of the seat's roots in one cut). By AI agents, Wed Nov 11 2026. No macro, syntax, notation, axiom, sorry.
-/
import Derived.Test.YtnjlklcggcfcgaaChecked
import GoSem.Claim
import GoSem.ClaimJoined
import GoSem.ClaimMapViews
import Derived.JoinedTies
import Derived.KernelRfl
namespace Go.Proofs.Ytnjlklcggcfcgaa
/- THE CELL 'sum', in the pinned program and in every row, IS THE sha256 OF THE DUMP (.gsa) THAT YtnjlklcggcfcgaaProg.lean LOADS. Nothing in Lean hashes anything: it is a label: what it is worth is what the hold of that sum in a sandbox is worth. -/
noncomputable def Try.pinned : Pinned := { name := "ytnjlklcggcfcgaa", sum := "adfe9b3b5d5a90ed0dbb0c3bca64f2892ea68d1db8a66eba14754e9b2bea7908", checked := Try.checked }
namespace Rows
def none {H : Type} : Left H := { results := [], args := [] }

/-- 'engraverlaw10.PaletteMakes': WHATEVER THE INPUT: true; the input reads as it did. -/
def paletteMakesSpec : ChangeSpec := { name := "paletteMakes", fn := fun _ => fun
  | [d1, d2] => { results := [.lit (.bool true)], args := [d1, d2] }
  | _ => none }
def paletteMakesRow : OpenClaim := { program := "ytnjlklcggcfcgaa", sum := "adfe9b3b5d5a90ed0dbb0c3bca64f2892ea68d1db8a66eba14754e9b2bea7908", func := "engraver/engraverlaw10.PaletteMakes", spec := "paletteMakes", unfollowed := true, recurses := true, plainKeys := false, apart := false }
def PaletteMakesSaid : Prop := paletteMakesRow.holds Try.pinned (OpenSpec.ofChange paletteMakesSpec)

/-- ITS FALSE NEIGHBOUR: 'it returns false'. Refute it at one input. -/
def paletteMakesWrong : ChangeSpec := { name := "paletteMakes", fn := fun _ => fun
  | [d1, d2] => { results := [.lit (.bool false)], args := [d1, d2] }
  | _ => none }
def PaletteMakesWrongFalsely : Prop := paletteMakesRow.holds Try.pinned (OpenSpec.ofChange paletteMakesWrong)

/-- 'engraverlaw10.PaletteDraws': WHATEVER THE INPUT: true; the input reads as it did. -/
def paletteDrawsSpec : ChangeSpec := { name := "paletteDraws", fn := fun _ => fun
  | [d1, d2, d3] => { results := [.lit (.bool true)], args := [d1, d2, d3] }
  | _ => none }
def paletteDrawsRow : OpenClaim := { program := "ytnjlklcggcfcgaa", sum := "adfe9b3b5d5a90ed0dbb0c3bca64f2892ea68d1db8a66eba14754e9b2bea7908", func := "engraver/engraverlaw10.PaletteDraws", spec := "paletteDraws", unfollowed := true, recurses := true, plainKeys := false, apart := false }
def PaletteDrawsSaid : Prop := paletteDrawsRow.holds Try.pinned (OpenSpec.ofChange paletteDrawsSpec)

/-- ITS FALSE NEIGHBOUR: 'it returns false'. Refute it at one input. -/
def paletteDrawsWrong : ChangeSpec := { name := "paletteDraws", fn := fun _ => fun
  | [d1, d2, d3] => { results := [.lit (.bool false)], args := [d1, d2, d3] }
  | _ => none }
def PaletteDrawsWrongFalsely : Prop := paletteDrawsRow.holds Try.pinned (OpenSpec.ofChange paletteDrawsWrong)

/-- 'engraverlaw10.PaletteBack': WHATEVER THE INPUT: true; the input reads as it did. -/
def paletteBackSpec : ChangeSpec := { name := "paletteBack", fn := fun _ => fun
  | [d] => { results := [.lit (.bool true)], args := [d] }
  | _ => none }
def paletteBackRow : OpenClaim := { program := "ytnjlklcggcfcgaa", sum := "adfe9b3b5d5a90ed0dbb0c3bca64f2892ea68d1db8a66eba14754e9b2bea7908", func := "engraver/engraverlaw10.PaletteBack", spec := "paletteBack", unfollowed := true, recurses := true, plainKeys := false, apart := false }
def PaletteBackSaid : Prop := paletteBackRow.holds Try.pinned (OpenSpec.ofChange paletteBackSpec)

/-- ITS FALSE NEIGHBOUR: 'it returns false'. Refute it at one input. -/
def paletteBackWrong : ChangeSpec := { name := "paletteBack", fn := fun _ => fun
  | [d] => { results := [.lit (.bool false)], args := [d] }
  | _ => none }
def PaletteBackWrongFalsely : Prop := paletteBackRow.holds Try.pinned (OpenSpec.ofChange paletteBackWrong)

/-- 'engraverlaw10.PaletteFull': WHATEVER THE INPUT: true; the input reads as it did. -/
def paletteFullSpec : ChangeSpec := { name := "paletteFull", fn := fun _ => fun
  | [] => { results := [.lit (.bool true)], args := [] }
  | _ => none }
def paletteFullRow : OpenClaim := { program := "ytnjlklcggcfcgaa", sum := "adfe9b3b5d5a90ed0dbb0c3bca64f2892ea68d1db8a66eba14754e9b2bea7908", func := "engraver/engraverlaw10.PaletteFull", spec := "paletteFull", unfollowed := true, recurses := true, plainKeys := false, apart := false }
def PaletteFullSaid : Prop := paletteFullRow.holds Try.pinned (OpenSpec.ofChange paletteFullSpec)

/-- ITS FALSE NEIGHBOUR: 'it returns false'. Refute it at one input. -/
def paletteFullWrong : ChangeSpec := { name := "paletteFull", fn := fun _ => fun
  | [] => { results := [.lit (.bool false)], args := [] }
  | _ => none }
def PaletteFullWrongFalsely : Prop := paletteFullRow.holds Try.pinned (OpenSpec.ofChange paletteFullWrong)

/-- 'engraverlaw10.PaletteBits': WHATEVER THE INPUT: true; the input reads as it did. -/
def paletteBitsSpec : ChangeSpec := { name := "paletteBits", fn := fun _ => fun
  | [d] => { results := [.lit (.bool true)], args := [d] }
  | _ => none }
def paletteBitsRow : OpenClaim := { program := "ytnjlklcggcfcgaa", sum := "adfe9b3b5d5a90ed0dbb0c3bca64f2892ea68d1db8a66eba14754e9b2bea7908", func := "engraver/engraverlaw10.PaletteBits", spec := "paletteBits", unfollowed := true, recurses := true, plainKeys := false, apart := false }
def PaletteBitsSaid : Prop := paletteBitsRow.holds Try.pinned (OpenSpec.ofChange paletteBitsSpec)

/-- ITS FALSE NEIGHBOUR: 'it returns false'. Refute it at one input. -/
def paletteBitsWrong : ChangeSpec := { name := "paletteBits", fn := fun _ => fun
  | [d] => { results := [.lit (.bool false)], args := [d] }
  | _ => none }
def PaletteBitsWrongFalsely : Prop := paletteBitsRow.holds Try.pinned (OpenSpec.ofChange paletteBitsWrong)

/-- 'engraverlaw10.PaletteOrder': WHATEVER THE INPUT: true; the input reads as it did. -/
def paletteOrderSpec : ChangeSpec := { name := "paletteOrder", fn := fun _ => fun
  | [d1, d2] => { results := [.lit (.bool true)], args := [d1, d2] }
  | _ => none }
def paletteOrderRow : OpenClaim := { program := "ytnjlklcggcfcgaa", sum := "adfe9b3b5d5a90ed0dbb0c3bca64f2892ea68d1db8a66eba14754e9b2bea7908", func := "engraver/engraverlaw10.PaletteOrder", spec := "paletteOrder", unfollowed := true, recurses := true, plainKeys := false, apart := false }
def PaletteOrderSaid : Prop := paletteOrderRow.holds Try.pinned (OpenSpec.ofChange paletteOrderSpec)

/-- ITS FALSE NEIGHBOUR: 'it returns false'. Refute it at one input. -/
def paletteOrderWrong : ChangeSpec := { name := "paletteOrder", fn := fun _ => fun
  | [d1, d2] => { results := [.lit (.bool false)], args := [d1, d2] }
  | _ => none }
def PaletteOrderWrongFalsely : Prop := paletteOrderRow.holds Try.pinned (OpenSpec.ofChange paletteOrderWrong)

/- THE SECOND FORM. 'bulk': how many values and letters a reading holds, each counted each time it is reached (what is shared counts as often as it is met; a slice's spare places count too). A statement '..UptoSaid' is the law's where the arguments, and the package variables that the reading takes, are together of bulk at most 1048576: NARROWER than '..Said'. Prove '..Said' where nothing that the law and all that it calls make is longer than what came in: it says more and counts as full. Else prove '..UptoSaid'. A law counts once. -/
mutual
def uptoBulk {H : Type} : DataW H → Nat
  | .lit (.string bytes) => bytes.length + 1
  | .lit _ => 1
  | .nil => 1
  | .ptr d => uptoBulk d + 1
  | .slice elems spare => uptoBulkAll elems + uptoBulkAll spare + 1
  | .agg parts => uptoBulkAll parts + 1
  | .iface _ d => uptoBulk d + 1
  | .map entries => uptoBulkEntries entries + 1
  | .held _ => 1
def uptoBulkAll {H : Type} : List (DataW H) → Nat
  | [] => 0
  | d :: r => uptoBulk d + uptoBulkAll r
def uptoBulkEntries {H : Type} : List (Lit × DataW H) → Nat
  | [] => 0
  | x :: r => uptoBulkEntry x + uptoBulkEntries r
def uptoBulkEntry {H : Type} : Lit × DataW H → Nat
  | (.string bytes, d) => bytes.length + uptoBulk d + 1
  | (_, d) => uptoBulk d + 1
 end
def uptoSmall : (H : Type) → List (DataW H) → Bool := fun _ ds => decide (uptoBulkAll ds ≤ 1048576)
def OpenSpec.upto (s : _root_.Go.ChangeSpec) : _root_.Go.OpenSpec := { _root_.Go.OpenSpec.ofChange s with cond := some uptoSmall }

/-- 'engraverlaw10.PaletteMakes', WHERE WHAT IT READS IS OF BULK AT MOST 1048576: true; the input reads as it did. -/
def paletteMakesUptoRow : OpenClaim := { program := "ytnjlklcggcfcgaa", sum := "adfe9b3b5d5a90ed0dbb0c3bca64f2892ea68d1db8a66eba14754e9b2bea7908", func := "engraver/engraverlaw10.PaletteMakes", spec := "paletteMakes", unfollowed := true, recurses := true, plainKeys := false, apart := false, narrowed := true }
def PaletteMakesUptoSaid : Prop := paletteMakesUptoRow.holds Try.pinned (OpenSpec.upto paletteMakesSpec)

/-- 'engraverlaw10.PaletteDraws', WHERE WHAT IT READS IS OF BULK AT MOST 1048576: true; the input reads as it did. -/
def paletteDrawsUptoRow : OpenClaim := { program := "ytnjlklcggcfcgaa", sum := "adfe9b3b5d5a90ed0dbb0c3bca64f2892ea68d1db8a66eba14754e9b2bea7908", func := "engraver/engraverlaw10.PaletteDraws", spec := "paletteDraws", unfollowed := true, recurses := true, plainKeys := false, apart := false, narrowed := true }
def PaletteDrawsUptoSaid : Prop := paletteDrawsUptoRow.holds Try.pinned (OpenSpec.upto paletteDrawsSpec)

/-- 'engraverlaw10.PaletteBack', WHERE WHAT IT READS IS OF BULK AT MOST 1048576: true; the input reads as it did. -/
def paletteBackUptoRow : OpenClaim := { program := "ytnjlklcggcfcgaa", sum := "adfe9b3b5d5a90ed0dbb0c3bca64f2892ea68d1db8a66eba14754e9b2bea7908", func := "engraver/engraverlaw10.PaletteBack", spec := "paletteBack", unfollowed := true, recurses := true, plainKeys := false, apart := false, narrowed := true }
def PaletteBackUptoSaid : Prop := paletteBackUptoRow.holds Try.pinned (OpenSpec.upto paletteBackSpec)

/-- 'engraverlaw10.PaletteFull', WHERE WHAT IT READS IS OF BULK AT MOST 1048576: true; the input reads as it did. -/
def paletteFullUptoRow : OpenClaim := { program := "ytnjlklcggcfcgaa", sum := "adfe9b3b5d5a90ed0dbb0c3bca64f2892ea68d1db8a66eba14754e9b2bea7908", func := "engraver/engraverlaw10.PaletteFull", spec := "paletteFull", unfollowed := true, recurses := true, plainKeys := false, apart := false, narrowed := true }
def PaletteFullUptoSaid : Prop := paletteFullUptoRow.holds Try.pinned (OpenSpec.upto paletteFullSpec)

/-- 'engraverlaw10.PaletteBits', WHERE WHAT IT READS IS OF BULK AT MOST 1048576: true; the input reads as it did. -/
def paletteBitsUptoRow : OpenClaim := { program := "ytnjlklcggcfcgaa", sum := "adfe9b3b5d5a90ed0dbb0c3bca64f2892ea68d1db8a66eba14754e9b2bea7908", func := "engraver/engraverlaw10.PaletteBits", spec := "paletteBits", unfollowed := true, recurses := true, plainKeys := false, apart := false, narrowed := true }
def PaletteBitsUptoSaid : Prop := paletteBitsUptoRow.holds Try.pinned (OpenSpec.upto paletteBitsSpec)

/-- 'engraverlaw10.PaletteOrder', WHERE WHAT IT READS IS OF BULK AT MOST 1048576: true; the input reads as it did. -/
def paletteOrderUptoRow : OpenClaim := { program := "ytnjlklcggcfcgaa", sum := "adfe9b3b5d5a90ed0dbb0c3bca64f2892ea68d1db8a66eba14754e9b2bea7908", func := "engraver/engraverlaw10.PaletteOrder", spec := "paletteOrder", unfollowed := true, recurses := true, plainKeys := false, apart := false, narrowed := true }
def PaletteOrderUptoSaid : Prop := paletteOrderUptoRow.holds Try.pinned (OpenSpec.upto paletteOrderSpec)

end Rows
end Go.Proofs.Ytnjlklcggcfcgaa
