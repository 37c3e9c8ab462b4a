/-
  No cell of these rows narrows 'for every input' (looked for: loops, veiled, ifaces, maps, wideKeys, modest, calm, conditions, laid).
  DERIVED. THE GIVEN ROWS OF THIS SEAT. 5 by the template 'for every input the law returns true; each argument reads behind the call as it read before'; 0 by the template 'total and deterministic' (their statements: YtpfpfklmmcejbaaTotals.lean).
  GIVEN WITH THE SEED: the statements are not yours to turn. If you find one false, say at which input.
  Laid BY PROGRAM, IN A SANDBOX (cutbox-rows.mjs): the forced cells as the released guide's own fill.sh prints them over the translation 1bc770b9c9858b8a… (all of the seat's roots in one cut). By AI agents, Wed Nov 11 2026. No macro, syntax, notation, axiom, sorry.
-/
import Derived.Test.YtpfpfklmmcejbaaChecked
import GoSem.Claim
import GoSem.ClaimJoined
import GoSem.ClaimMapViews
import Derived.JoinedTies
import Derived.KernelRfl
namespace Go.Proofs.Ytpfpfklmmcejbaa
/- THE CELL 'sum', in the pinned program and in every row, IS THE sha256 OF THE DUMP (.gsa) THAT YtpfpfklmmcejbaaProg.lean LOADS. Nothing in Lean hashes anything: it is a label: what it is worth is what the hold of that sum in a sandbox is worth. -/
noncomputable def Try.pinned : Pinned := { name := "ytpfpfklmmcejbaa", sum := "1bc770b9c9858b8a5f569ecc386fbcd24c18b3a272e2483bec2bed5eff1ea698", checked := Try.checked }
namespace Rows
def none {H : Type} : Left H := { results := [], args := [] }

/-- 'engraverlaw9.DepthScales': WHATEVER THE INPUT: true; the input reads as it did. -/
def depthScalesSpec : ChangeSpec := { name := "depthScales", fn := fun _ => fun
  | [d1, d2, d3] => { results := [.lit (.bool true)], args := [d1, d2, d3] }
  | _ => none }
def depthScalesRow : OpenClaim := { program := "ytpfpfklmmcejbaa", sum := "1bc770b9c9858b8a5f569ecc386fbcd24c18b3a272e2483bec2bed5eff1ea698", func := "engraver/engraverlaw9.DepthScales", spec := "depthScales", inPlace := ["math.Float64frombits", "math.Float64bits"], plainKeys := false, apart := false }
def DepthScalesSaid : Prop := depthScalesRow.holds Try.pinned (OpenSpec.ofChange depthScalesSpec)

/-- ITS FALSE NEIGHBOUR: 'it returns false'. Refute it at one input. -/
def depthScalesWrong : ChangeSpec := { name := "depthScales", fn := fun _ => fun
  | [d1, d2, d3] => { results := [.lit (.bool false)], args := [d1, d2, d3] }
  | _ => none }
def DepthScalesWrongFalsely : Prop := depthScalesRow.holds Try.pinned (OpenSpec.ofChange depthScalesWrong)

/-- 'engraverlaw9.DepthExact': WHATEVER THE INPUT: true; the input reads as it did. -/
def depthExactSpec : ChangeSpec := { name := "depthExact", fn := fun _ => fun
  | [d1, d2] => { results := [.lit (.bool true)], args := [d1, d2] }
  | _ => none }
def depthExactRow : OpenClaim := { program := "ytpfpfklmmcejbaa", sum := "1bc770b9c9858b8a5f569ecc386fbcd24c18b3a272e2483bec2bed5eff1ea698", func := "engraver/engraverlaw9.DepthExact", spec := "depthExact", inPlace := ["math.Float64frombits", "math.Float64bits"], plainKeys := false, apart := false }
def DepthExactSaid : Prop := depthExactRow.holds Try.pinned (OpenSpec.ofChange depthExactSpec)

/-- ITS FALSE NEIGHBOUR: 'it returns false'. Refute it at one input. -/
def depthExactWrong : ChangeSpec := { name := "depthExact", fn := fun _ => fun
  | [d1, d2] => { results := [.lit (.bool false)], args := [d1, d2] }
  | _ => none }
def DepthExactWrongFalsely : Prop := depthExactRow.holds Try.pinned (OpenSpec.ofChange depthExactWrong)

/-- 'engraverlaw9.DepthRatios': WHATEVER THE INPUT: true; the input reads as it did. -/
def depthRatiosSpec : ChangeSpec := { name := "depthRatios", fn := fun _ => fun
  | [d1, d2, d3] => { results := [.lit (.bool true)], args := [d1, d2, d3] }
  | _ => none }
def depthRatiosRow : OpenClaim := { program := "ytpfpfklmmcejbaa", sum := "1bc770b9c9858b8a5f569ecc386fbcd24c18b3a272e2483bec2bed5eff1ea698", func := "engraver/engraverlaw9.DepthRatios", spec := "depthRatios", inPlace := ["math.Float64frombits", "math.Float64bits"], plainKeys := false, apart := false }
def DepthRatiosSaid : Prop := depthRatiosRow.holds Try.pinned (OpenSpec.ofChange depthRatiosSpec)

/-- ITS FALSE NEIGHBOUR: 'it returns false'. Refute it at one input. -/
def depthRatiosWrong : ChangeSpec := { name := "depthRatios", fn := fun _ => fun
  | [d1, d2, d3] => { results := [.lit (.bool false)], args := [d1, d2, d3] }
  | _ => none }
def DepthRatiosWrongFalsely : Prop := depthRatiosRow.holds Try.pinned (OpenSpec.ofChange depthRatiosWrong)

/-- 'engraverlaw9.DepthFits': WHATEVER THE INPUT: true; the input reads as it did. -/
def depthFitsSpec : ChangeSpec := { name := "depthFits", fn := fun _ => fun
  | [d1, d2] => { results := [.lit (.bool true)], args := [d1, d2] }
  | _ => none }
def depthFitsRow : OpenClaim := { program := "ytpfpfklmmcejbaa", sum := "1bc770b9c9858b8a5f569ecc386fbcd24c18b3a272e2483bec2bed5eff1ea698", func := "engraver/engraverlaw9.DepthFits", spec := "depthFits", inPlace := ["math.Float64frombits", "math.Float64bits"], unfollowed := true, recurses := true, plainKeys := false, apart := false }
def DepthFitsSaid : Prop := depthFitsRow.holds Try.pinned (OpenSpec.ofChange depthFitsSpec)

/-- ITS FALSE NEIGHBOUR: 'it returns false'. Refute it at one input. -/
def depthFitsWrong : ChangeSpec := { name := "depthFits", fn := fun _ => fun
  | [d1, d2] => { results := [.lit (.bool false)], args := [d1, d2] }
  | _ => none }
def DepthFitsWrongFalsely : Prop := depthFitsRow.holds Try.pinned (OpenSpec.ofChange depthFitsWrong)

/-- 'engraverlaw9.DepthPixel': WHATEVER THE INPUT: true; the input reads as it did. -/
def depthPixelSpec : ChangeSpec := { name := "depthPixel", fn := fun _ => fun
  | [d1, d2, d3] => { results := [.lit (.bool true)], args := [d1, d2, d3] }
  | _ => none }
def depthPixelRow : OpenClaim := { program := "ytpfpfklmmcejbaa", sum := "1bc770b9c9858b8a5f569ecc386fbcd24c18b3a272e2483bec2bed5eff1ea698", func := "engraver/engraverlaw9.DepthPixel", spec := "depthPixel", inPlace := ["math.Float64frombits", "math.Float64bits"], unfollowed := true, recurses := true, plainKeys := false, apart := false }
def DepthPixelSaid : Prop := depthPixelRow.holds Try.pinned (OpenSpec.ofChange depthPixelSpec)

/-- ITS FALSE NEIGHBOUR: 'it returns false'. Refute it at one input. -/
def depthPixelWrong : ChangeSpec := { name := "depthPixel", fn := fun _ => fun
  | [d1, d2, d3] => { results := [.lit (.bool false)], args := [d1, d2, d3] }
  | _ => none }
def DepthPixelWrongFalsely : Prop := depthPixelRow.holds Try.pinned (OpenSpec.ofChange depthPixelWrong)

/- THE SECOND FORM. 'bulk': how many values and letters a reading holds, each counted each time it is reached (what is shared counts as often as it is met; a slice's spare places count too). A statement '..UptoSaid' is the law's where the arguments, and the package variables that the reading takes, are together of bulk at most 1048576: NARROWER than '..Said'. Prove '..Said' where nothing that the law and all that it calls make is longer than what came in: it says more and counts as full. Else prove '..UptoSaid'. A law counts once. -/
mutual
def uptoBulk {H : Type} : DataW H → Nat
  | .lit (.string bytes) => bytes.length + 1
  | .lit _ => 1
  | .nil => 1
  | .ptr d => uptoBulk d + 1
  | .slice elems spare => uptoBulkAll elems + uptoBulkAll spare + 1
  | .agg parts => uptoBulkAll parts + 1
  | .iface _ d => uptoBulk d + 1
  | .map entries => uptoBulkEntries entries + 1
  | .held _ => 1
def uptoBulkAll {H : Type} : List (DataW H) → Nat
  | [] => 0
  | d :: r => uptoBulk d + uptoBulkAll r
def uptoBulkEntries {H : Type} : List (Lit × DataW H) → Nat
  | [] => 0
  | x :: r => uptoBulkEntry x + uptoBulkEntries r
def uptoBulkEntry {H : Type} : Lit × DataW H → Nat
  | (.string bytes, d) => bytes.length + uptoBulk d + 1
  | (_, d) => uptoBulk d + 1
 end
def uptoSmall : (H : Type) → List (DataW H) → Bool := fun _ ds => decide (uptoBulkAll ds ≤ 1048576)
def OpenSpec.upto (s : _root_.Go.ChangeSpec) : _root_.Go.OpenSpec := { _root_.Go.OpenSpec.ofChange s with cond := some uptoSmall }

/-- 'engraverlaw9.DepthScales', WHERE WHAT IT READS IS OF BULK AT MOST 1048576: true; the input reads as it did. -/
def depthScalesUptoRow : OpenClaim := { program := "ytpfpfklmmcejbaa", sum := "1bc770b9c9858b8a5f569ecc386fbcd24c18b3a272e2483bec2bed5eff1ea698", func := "engraver/engraverlaw9.DepthScales", spec := "depthScales", inPlace := ["math.Float64frombits", "math.Float64bits"], plainKeys := false, apart := false, narrowed := true }
def DepthScalesUptoSaid : Prop := depthScalesUptoRow.holds Try.pinned (OpenSpec.upto depthScalesSpec)

/-- 'engraverlaw9.DepthExact', WHERE WHAT IT READS IS OF BULK AT MOST 1048576: true; the input reads as it did. -/
def depthExactUptoRow : OpenClaim := { program := "ytpfpfklmmcejbaa", sum := "1bc770b9c9858b8a5f569ecc386fbcd24c18b3a272e2483bec2bed5eff1ea698", func := "engraver/engraverlaw9.DepthExact", spec := "depthExact", inPlace := ["math.Float64frombits", "math.Float64bits"], plainKeys := false, apart := false, narrowed := true }
def DepthExactUptoSaid : Prop := depthExactUptoRow.holds Try.pinned (OpenSpec.upto depthExactSpec)

/-- 'engraverlaw9.DepthRatios', WHERE WHAT IT READS IS OF BULK AT MOST 1048576: true; the input reads as it did. -/
def depthRatiosUptoRow : OpenClaim := { program := "ytpfpfklmmcejbaa", sum := "1bc770b9c9858b8a5f569ecc386fbcd24c18b3a272e2483bec2bed5eff1ea698", func := "engraver/engraverlaw9.DepthRatios", spec := "depthRatios", inPlace := ["math.Float64frombits", "math.Float64bits"], plainKeys := false, apart := false, narrowed := true }
def DepthRatiosUptoSaid : Prop := depthRatiosUptoRow.holds Try.pinned (OpenSpec.upto depthRatiosSpec)

/-- 'engraverlaw9.DepthFits', WHERE WHAT IT READS IS OF BULK AT MOST 1048576: true; the input reads as it did. -/
def depthFitsUptoRow : OpenClaim := { program := "ytpfpfklmmcejbaa", sum := "1bc770b9c9858b8a5f569ecc386fbcd24c18b3a272e2483bec2bed5eff1ea698", func := "engraver/engraverlaw9.DepthFits", spec := "depthFits", inPlace := ["math.Float64frombits", "math.Float64bits"], unfollowed := true, recurses := true, plainKeys := false, apart := false, narrowed := true }
def DepthFitsUptoSaid : Prop := depthFitsUptoRow.holds Try.pinned (OpenSpec.upto depthFitsSpec)

/-- 'engraverlaw9.DepthPixel', WHERE WHAT IT READS IS OF BULK AT MOST 1048576: true; the input reads as it did. -/
def depthPixelUptoRow : OpenClaim := { program := "ytpfpfklmmcejbaa", sum := "1bc770b9c9858b8a5f569ecc386fbcd24c18b3a272e2483bec2bed5eff1ea698", func := "engraver/engraverlaw9.DepthPixel", spec := "depthPixel", inPlace := ["math.Float64frombits", "math.Float64bits"], unfollowed := true, recurses := true, plainKeys := false, apart := false, narrowed := true }
def DepthPixelUptoSaid : Prop := depthPixelUptoRow.holds Try.pinned (OpenSpec.upto depthPixelSpec)

end Rows
end Go.Proofs.Ytpfpfklmmcejbaa
