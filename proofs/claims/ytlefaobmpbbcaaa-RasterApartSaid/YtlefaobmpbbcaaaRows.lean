/-
  No cell of these rows narrows 'for every input' (looked for: loops, veiled, ifaces, maps, wideKeys, modest, calm, conditions, laid).
  DERIVED. THE GIVEN ROWS OF THIS SEAT. 5 by the template 'for every input the law returns true; each argument reads behind the call as it read before'; 0 by the template 'total and deterministic' (their statements: YtlefaobmpbbcaaaTotals.lean).
  GIVEN WITH THE SEED: the statements are not yours to turn. If you find one false, say at which input.
  Laid BY PROGRAM, IN A SANDBOX (cutbox-rows.mjs): the forced cells as the released guide's own fill.sh prints them over the translation 1cbb8bcf69009702… (all of the seat's roots in one cut). By AI agents, Wed Nov 11 2026. No macro, syntax, notation, axiom, sorry.
-/
import Derived.Test.YtlefaobmpbbcaaaChecked
import GoSem.Claim
import GoSem.ClaimJoined
import GoSem.ClaimMapViews
import Derived.JoinedTies
import Derived.KernelRfl
namespace Go.Proofs.Ytlefaobmpbbcaaa
/- THE CELL 'sum', in the pinned program and in every row, IS THE sha256 OF THE DUMP (.gsa) THAT YtlefaobmpbbcaaaProg.lean LOADS. Nothing in Lean hashes anything: it is a label: what it is worth is what the hold of that sum in a sandbox is worth. -/
noncomputable def Try.pinned : Pinned := { name := "ytlefaobmpbbcaaa", sum := "1cbb8bcf69009702ef5cef5c622219dc8fdf309bb6bff28fdb3b0d4f4c0ed7af", checked := Try.checked }
namespace Rows
def none {H : Type} : Left H := { results := [], args := [] }

/-- 'engraverlaw8.RasterSizes': WHATEVER THE INPUT: true; the input reads as it did. -/
def rasterSizesSpec : ChangeSpec := { name := "rasterSizes", fn := fun _ => fun
  | [d1, d2] => { results := [.lit (.bool true)], args := [d1, d2] }
  | _ => none }
def rasterSizesRow : OpenClaim := { program := "ytlefaobmpbbcaaa", sum := "1cbb8bcf69009702ef5cef5c622219dc8fdf309bb6bff28fdb3b0d4f4c0ed7af", func := "engraver/engraverlaw8.RasterSizes", spec := "rasterSizes", unfollowed := true, recurses := true, plainKeys := false, apart := false }
def RasterSizesSaid : Prop := rasterSizesRow.holds Try.pinned (OpenSpec.ofChange rasterSizesSpec)

/-- ITS FALSE NEIGHBOUR: 'it returns false'. Refute it at one input. -/
def rasterSizesWrong : ChangeSpec := { name := "rasterSizes", fn := fun _ => fun
  | [d1, d2] => { results := [.lit (.bool false)], args := [d1, d2] }
  | _ => none }
def RasterSizesWrongFalsely : Prop := rasterSizesRow.holds Try.pinned (OpenSpec.ofChange rasterSizesWrong)

/-- 'engraverlaw8.RasterCounts': WHATEVER THE INPUT: true; the input reads as it did. -/
def rasterCountsSpec : ChangeSpec := { name := "rasterCounts", fn := fun _ => fun
  | [d1, d2] => { results := [.lit (.bool true)], args := [d1, d2] }
  | _ => none }
def rasterCountsRow : OpenClaim := { program := "ytlefaobmpbbcaaa", sum := "1cbb8bcf69009702ef5cef5c622219dc8fdf309bb6bff28fdb3b0d4f4c0ed7af", func := "engraver/engraverlaw8.RasterCounts", spec := "rasterCounts", unfollowed := true, recurses := true, plainKeys := false, apart := false }
def RasterCountsSaid : Prop := rasterCountsRow.holds Try.pinned (OpenSpec.ofChange rasterCountsSpec)

/-- ITS FALSE NEIGHBOUR: 'it returns false'. Refute it at one input. -/
def rasterCountsWrong : ChangeSpec := { name := "rasterCounts", fn := fun _ => fun
  | [d1, d2] => { results := [.lit (.bool false)], args := [d1, d2] }
  | _ => none }
def RasterCountsWrongFalsely : Prop := rasterCountsRow.holds Try.pinned (OpenSpec.ofChange rasterCountsWrong)

/-- 'engraverlaw8.RasterRows': WHATEVER THE INPUT: true; the input reads as it did. -/
def rasterRowsSpec : ChangeSpec := { name := "rasterRows", fn := fun _ => fun
  | [d1, d2, d3] => { results := [.lit (.bool true)], args := [d1, d2, d3] }
  | _ => none }
def rasterRowsRow : OpenClaim := { program := "ytlefaobmpbbcaaa", sum := "1cbb8bcf69009702ef5cef5c622219dc8fdf309bb6bff28fdb3b0d4f4c0ed7af", func := "engraver/engraverlaw8.RasterRows", spec := "rasterRows", unfollowed := true, recurses := true, plainKeys := false, apart := false }
def RasterRowsSaid : Prop := rasterRowsRow.holds Try.pinned (OpenSpec.ofChange rasterRowsSpec)

/-- ITS FALSE NEIGHBOUR: 'it returns false'. Refute it at one input. -/
def rasterRowsWrong : ChangeSpec := { name := "rasterRows", fn := fun _ => fun
  | [d1, d2, d3] => { results := [.lit (.bool false)], args := [d1, d2, d3] }
  | _ => none }
def RasterRowsWrongFalsely : Prop := rasterRowsRow.holds Try.pinned (OpenSpec.ofChange rasterRowsWrong)

/-- 'engraverlaw8.RasterPixels': WHATEVER THE INPUT: true; the input reads as it did. -/
def rasterPixelsSpec : ChangeSpec := { name := "rasterPixels", fn := fun _ => fun
  | [d1, d2, d3] => { results := [.lit (.bool true)], args := [d1, d2, d3] }
  | _ => none }
def rasterPixelsRow : OpenClaim := { program := "ytlefaobmpbbcaaa", sum := "1cbb8bcf69009702ef5cef5c622219dc8fdf309bb6bff28fdb3b0d4f4c0ed7af", func := "engraver/engraverlaw8.RasterPixels", spec := "rasterPixels", unfollowed := true, recurses := true, plainKeys := false, apart := false }
def RasterPixelsSaid : Prop := rasterPixelsRow.holds Try.pinned (OpenSpec.ofChange rasterPixelsSpec)

/-- ITS FALSE NEIGHBOUR: 'it returns false'. Refute it at one input. -/
def rasterPixelsWrong : ChangeSpec := { name := "rasterPixels", fn := fun _ => fun
  | [d1, d2, d3] => { results := [.lit (.bool false)], args := [d1, d2, d3] }
  | _ => none }
def RasterPixelsWrongFalsely : Prop := rasterPixelsRow.holds Try.pinned (OpenSpec.ofChange rasterPixelsWrong)

/-- 'engraverlaw8.RasterApart': WHATEVER THE INPUT: true; the input reads as it did. -/
def rasterApartSpec : ChangeSpec := { name := "rasterApart", fn := fun _ => fun
  | [d1, d2, d3] => { results := [.lit (.bool true)], args := [d1, d2, d3] }
  | _ => none }
def rasterApartRow : OpenClaim := { program := "ytlefaobmpbbcaaa", sum := "1cbb8bcf69009702ef5cef5c622219dc8fdf309bb6bff28fdb3b0d4f4c0ed7af", func := "engraver/engraverlaw8.RasterApart", spec := "rasterApart", unfollowed := true, recurses := true, plainKeys := false, apart := false }
def RasterApartSaid : Prop := rasterApartRow.holds Try.pinned (OpenSpec.ofChange rasterApartSpec)

/-- ITS FALSE NEIGHBOUR: 'it returns false'. Refute it at one input. -/
def rasterApartWrong : ChangeSpec := { name := "rasterApart", fn := fun _ => fun
  | [d1, d2, d3] => { results := [.lit (.bool false)], args := [d1, d2, d3] }
  | _ => none }
def RasterApartWrongFalsely : Prop := rasterApartRow.holds Try.pinned (OpenSpec.ofChange rasterApartWrong)

/- THE SECOND FORM. 'bulk': how many values and letters a reading holds, each counted each time it is reached (what is shared counts as often as it is met; a slice's spare places count too). A statement '..UptoSaid' is the law's where the arguments, and the package variables that the reading takes, are together of bulk at most 1048576: NARROWER than '..Said'. Prove '..Said' where nothing that the law and all that it calls make is longer than what came in: it says more and counts as full. Else prove '..UptoSaid'. A law counts once. -/
mutual
def uptoBulk {H : Type} : DataW H → Nat
  | .lit (.string bytes) => bytes.length + 1
  | .lit _ => 1
  | .nil => 1
  | .ptr d => uptoBulk d + 1
  | .slice elems spare => uptoBulkAll elems + uptoBulkAll spare + 1
  | .agg parts => uptoBulkAll parts + 1
  | .iface _ d => uptoBulk d + 1
  | .map entries => uptoBulkEntries entries + 1
  | .held _ => 1
def uptoBulkAll {H : Type} : List (DataW H) → Nat
  | [] => 0
  | d :: r => uptoBulk d + uptoBulkAll r
def uptoBulkEntries {H : Type} : List (Lit × DataW H) → Nat
  | [] => 0
  | x :: r => uptoBulkEntry x + uptoBulkEntries r
def uptoBulkEntry {H : Type} : Lit × DataW H → Nat
  | (.string bytes, d) => bytes.length + uptoBulk d + 1
  | (_, d) => uptoBulk d + 1
 end
def uptoSmall : (H : Type) → List (DataW H) → Bool := fun _ ds => decide (uptoBulkAll ds ≤ 1048576)
def OpenSpec.upto (s : _root_.Go.ChangeSpec) : _root_.Go.OpenSpec := { _root_.Go.OpenSpec.ofChange s with cond := some uptoSmall }

/-- 'engraverlaw8.RasterSizes', WHERE WHAT IT READS IS OF BULK AT MOST 1048576: true; the input reads as it did. -/
def rasterSizesUptoRow : OpenClaim := { program := "ytlefaobmpbbcaaa", sum := "1cbb8bcf69009702ef5cef5c622219dc8fdf309bb6bff28fdb3b0d4f4c0ed7af", func := "engraver/engraverlaw8.RasterSizes", spec := "rasterSizes", unfollowed := true, recurses := true, plainKeys := false, apart := false, narrowed := true }
def RasterSizesUptoSaid : Prop := rasterSizesUptoRow.holds Try.pinned (OpenSpec.upto rasterSizesSpec)

/-- 'engraverlaw8.RasterCounts', WHERE WHAT IT READS IS OF BULK AT MOST 1048576: true; the input reads as it did. -/
def rasterCountsUptoRow : OpenClaim := { program := "ytlefaobmpbbcaaa", sum := "1cbb8bcf69009702ef5cef5c622219dc8fdf309bb6bff28fdb3b0d4f4c0ed7af", func := "engraver/engraverlaw8.RasterCounts", spec := "rasterCounts", unfollowed := true, recurses := true, plainKeys := false, apart := false, narrowed := true }
def RasterCountsUptoSaid : Prop := rasterCountsUptoRow.holds Try.pinned (OpenSpec.upto rasterCountsSpec)

/-- 'engraverlaw8.RasterRows', WHERE WHAT IT READS IS OF BULK AT MOST 1048576: true; the input reads as it did. -/
def rasterRowsUptoRow : OpenClaim := { program := "ytlefaobmpbbcaaa", sum := "1cbb8bcf69009702ef5cef5c622219dc8fdf309bb6bff28fdb3b0d4f4c0ed7af", func := "engraver/engraverlaw8.RasterRows", spec := "rasterRows", unfollowed := true, recurses := true, plainKeys := false, apart := false, narrowed := true }
def RasterRowsUptoSaid : Prop := rasterRowsUptoRow.holds Try.pinned (OpenSpec.upto rasterRowsSpec)

/-- 'engraverlaw8.RasterPixels', WHERE WHAT IT READS IS OF BULK AT MOST 1048576: true; the input reads as it did. -/
def rasterPixelsUptoRow : OpenClaim := { program := "ytlefaobmpbbcaaa", sum := "1cbb8bcf69009702ef5cef5c622219dc8fdf309bb6bff28fdb3b0d4f4c0ed7af", func := "engraver/engraverlaw8.RasterPixels", spec := "rasterPixels", unfollowed := true, recurses := true, plainKeys := false, apart := false, narrowed := true }
def RasterPixelsUptoSaid : Prop := rasterPixelsUptoRow.holds Try.pinned (OpenSpec.upto rasterPixelsSpec)

/-- 'engraverlaw8.RasterApart', WHERE WHAT IT READS IS OF BULK AT MOST 1048576: true; the input reads as it did. -/
def rasterApartUptoRow : OpenClaim := { program := "ytlefaobmpbbcaaa", sum := "1cbb8bcf69009702ef5cef5c622219dc8fdf309bb6bff28fdb3b0d4f4c0ed7af", func := "engraver/engraverlaw8.RasterApart", spec := "rasterApart", unfollowed := true, recurses := true, plainKeys := false, apart := false, narrowed := true }
def RasterApartUptoSaid : Prop := rasterApartUptoRow.holds Try.pinned (OpenSpec.upto rasterApartSpec)

end Rows
end Go.Proofs.Ytlefaobmpbbcaaa
