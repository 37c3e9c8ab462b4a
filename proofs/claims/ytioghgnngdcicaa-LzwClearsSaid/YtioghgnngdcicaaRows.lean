/-
  No cell of these rows narrows 'for every input' (looked for: loops, veiled, ifaces, maps, wideKeys, modest, calm, conditions, laid).
  DERIVED. THE GIVEN ROWS OF THIS SEAT. 8 by the template 'for every input the law returns true; each argument reads behind the call as it read before'; 0 by the template 'total and deterministic' (their statements: YtioghgnngdcicaaTotals.lean).
  GIVEN WITH THE SEED: the statements are not yours to turn. If you find one false, say at which input.
  Laid BY PROGRAM, IN A SANDBOX (cutbox-rows.mjs): the forced cells as the released guide's own fill.sh prints them over the translation 3aef1674361bcef2… (all of the seat's roots in one cut). By AI agents, Wed Nov 11 2026. No macro, syntax, notation, axiom, sorry.
-/
import Derived.Test.YtioghgnngdcicaaChecked
import GoSem.Claim
import GoSem.ClaimJoined
import GoSem.ClaimMapViews
import Derived.JoinedTies
import Derived.KernelRfl
namespace Go.Proofs.Ytioghgnngdcicaa
/- THE CELL 'sum', in the pinned program and in every row, IS THE sha256 OF THE DUMP (.gsa) THAT YtioghgnngdcicaaProg.lean LOADS. Nothing in Lean hashes anything: it is a label: what it is worth is what the hold of that sum in a sandbox is worth. -/
noncomputable def Try.pinned : Pinned := { name := "ytioghgnngdcicaa", sum := "3aef1674361bcef2d0d97ab997e2715c94f9df19a6c0ef752e486288598b7a9a", checked := Try.checked }
namespace Rows
def none {H : Type} : Left H := { results := [], args := [] }

/-- 'engraverlaw7.LzwReads': WHATEVER THE INPUT: true; the input reads as it did. -/
def lzwReadsSpec : ChangeSpec := { name := "lzwReads", fn := fun _ => fun
  | [d1, d2, d3] => { results := [.lit (.bool true)], args := [d1, d2, d3] }
  | _ => none }
def lzwReadsRow : OpenClaim := { program := "ytioghgnngdcicaa", sum := "3aef1674361bcef2d0d97ab997e2715c94f9df19a6c0ef752e486288598b7a9a", func := "engraver/engraverlaw7.LzwReads", spec := "lzwReads", unfollowed := true, recurses := true, plainKeys := false, apart := false }
def LzwReadsSaid : Prop := lzwReadsRow.holds Try.pinned (OpenSpec.ofChange lzwReadsSpec)

/-- ITS FALSE NEIGHBOUR: 'it returns false'. Refute it at one input. -/
def lzwReadsWrong : ChangeSpec := { name := "lzwReads", fn := fun _ => fun
  | [d1, d2, d3] => { results := [.lit (.bool false)], args := [d1, d2, d3] }
  | _ => none }
def LzwReadsWrongFalsely : Prop := lzwReadsRow.holds Try.pinned (OpenSpec.ofChange lzwReadsWrong)

/-- 'engraverlaw7.LzwSlices': WHATEVER THE INPUT: true; the input reads as it did. -/
def lzwSlicesSpec : ChangeSpec := { name := "lzwSlices", fn := fun _ => fun
  | [d1, d2, d3] => { results := [.lit (.bool true)], args := [d1, d2, d3] }
  | _ => none }
def lzwSlicesRow : OpenClaim := { program := "ytioghgnngdcicaa", sum := "3aef1674361bcef2d0d97ab997e2715c94f9df19a6c0ef752e486288598b7a9a", func := "engraver/engraverlaw7.LzwSlices", spec := "lzwSlices", unfollowed := true, recurses := true, plainKeys := false, apart := false }
def LzwSlicesSaid : Prop := lzwSlicesRow.holds Try.pinned (OpenSpec.ofChange lzwSlicesSpec)

/-- ITS FALSE NEIGHBOUR: 'it returns false'. Refute it at one input. -/
def lzwSlicesWrong : ChangeSpec := { name := "lzwSlices", fn := fun _ => fun
  | [d1, d2, d3] => { results := [.lit (.bool false)], args := [d1, d2, d3] }
  | _ => none }
def LzwSlicesWrongFalsely : Prop := lzwSlicesRow.holds Try.pinned (OpenSpec.ofChange lzwSlicesWrong)

/-- 'engraverlaw7.LzwFull': WHATEVER THE INPUT: true; the input reads as it did. -/
def lzwFullSpec : ChangeSpec := { name := "lzwFull", fn := fun _ => fun
  | [d1, d2] => { results := [.lit (.bool true)], args := [d1, d2] }
  | _ => none }
def lzwFullRow : OpenClaim := { program := "ytioghgnngdcicaa", sum := "3aef1674361bcef2d0d97ab997e2715c94f9df19a6c0ef752e486288598b7a9a", func := "engraver/engraverlaw7.LzwFull", spec := "lzwFull", unfollowed := true, recurses := true, plainKeys := false, apart := false }
def LzwFullSaid : Prop := lzwFullRow.holds Try.pinned (OpenSpec.ofChange lzwFullSpec)

/-- ITS FALSE NEIGHBOUR: 'it returns false'. Refute it at one input. -/
def lzwFullWrong : ChangeSpec := { name := "lzwFull", fn := fun _ => fun
  | [d1, d2] => { results := [.lit (.bool false)], args := [d1, d2] }
  | _ => none }
def LzwFullWrongFalsely : Prop := lzwFullRow.holds Try.pinned (OpenSpec.ofChange lzwFullWrong)

/-- 'engraverlaw7.LzwRuns': WHATEVER THE INPUT: true; the input reads as it did. -/
def lzwRunsSpec : ChangeSpec := { name := "lzwRuns", fn := fun _ => fun
  | [d1, d2, d3] => { results := [.lit (.bool true)], args := [d1, d2, d3] }
  | _ => none }
def lzwRunsRow : OpenClaim := { program := "ytioghgnngdcicaa", sum := "3aef1674361bcef2d0d97ab997e2715c94f9df19a6c0ef752e486288598b7a9a", func := "engraver/engraverlaw7.LzwRuns", spec := "lzwRuns", unfollowed := true, recurses := true, plainKeys := false, apart := false }
def LzwRunsSaid : Prop := lzwRunsRow.holds Try.pinned (OpenSpec.ofChange lzwRunsSpec)

/-- ITS FALSE NEIGHBOUR: 'it returns false'. Refute it at one input. -/
def lzwRunsWrong : ChangeSpec := { name := "lzwRuns", fn := fun _ => fun
  | [d1, d2, d3] => { results := [.lit (.bool false)], args := [d1, d2, d3] }
  | _ => none }
def LzwRunsWrongFalsely : Prop := lzwRunsRow.holds Try.pinned (OpenSpec.ofChange lzwRunsWrong)

/-- 'engraverlaw7.LzwClears': WHATEVER THE INPUT: true; the input reads as it did. -/
def lzwClearsSpec : ChangeSpec := { name := "lzwClears", fn := fun _ => fun
  | [d1, d2, d3] => { results := [.lit (.bool true)], args := [d1, d2, d3] }
  | _ => none }
def lzwClearsRow : OpenClaim := { program := "ytioghgnngdcicaa", sum := "3aef1674361bcef2d0d97ab997e2715c94f9df19a6c0ef752e486288598b7a9a", func := "engraver/engraverlaw7.LzwClears", spec := "lzwClears", unfollowed := true, recurses := true, plainKeys := false, apart := false }
def LzwClearsSaid : Prop := lzwClearsRow.holds Try.pinned (OpenSpec.ofChange lzwClearsSpec)

/-- ITS FALSE NEIGHBOUR: 'it returns false'. Refute it at one input. -/
def lzwClearsWrong : ChangeSpec := { name := "lzwClears", fn := fun _ => fun
  | [d1, d2, d3] => { results := [.lit (.bool false)], args := [d1, d2, d3] }
  | _ => none }
def LzwClearsWrongFalsely : Prop := lzwClearsRow.holds Try.pinned (OpenSpec.ofChange lzwClearsWrong)

/-- 'engraverlaw7.LzwKnown': WHATEVER THE INPUT: true; the input reads as it did. -/
def lzwKnownSpec : ChangeSpec := { name := "lzwKnown", fn := fun _ => fun
  | [] => { results := [.lit (.bool true)], args := [] }
  | _ => none }
def lzwKnownRow : OpenClaim := { program := "ytioghgnngdcicaa", sum := "3aef1674361bcef2d0d97ab997e2715c94f9df19a6c0ef752e486288598b7a9a", func := "engraver/engraverlaw7.LzwKnown", spec := "lzwKnown", unfollowed := true, recurses := true, plainKeys := false, apart := false }
def LzwKnownSaid : Prop := lzwKnownRow.holds Try.pinned (OpenSpec.ofChange lzwKnownSpec)

/-- ITS FALSE NEIGHBOUR: 'it returns false'. Refute it at one input. -/
def lzwKnownWrong : ChangeSpec := { name := "lzwKnown", fn := fun _ => fun
  | [] => { results := [.lit (.bool false)], args := [] }
  | _ => none }
def LzwKnownWrongFalsely : Prop := lzwKnownRow.holds Try.pinned (OpenSpec.ofChange lzwKnownWrong)

/-- 'engraverlaw7.LzwBack': WHATEVER THE INPUT: true; the input reads as it did. -/
def lzwBackSpec : ChangeSpec := { name := "lzwBack", fn := fun _ => fun
  | [d1, d2, d3] => { results := [.lit (.bool true)], args := [d1, d2, d3] }
  | _ => none }
def lzwBackRow : OpenClaim := { program := "ytioghgnngdcicaa", sum := "3aef1674361bcef2d0d97ab997e2715c94f9df19a6c0ef752e486288598b7a9a", func := "engraver/engraverlaw7.LzwBack", spec := "lzwBack", unfollowed := true, recurses := true, plainKeys := false, apart := false }
def LzwBackSaid : Prop := lzwBackRow.holds Try.pinned (OpenSpec.ofChange lzwBackSpec)

/-- ITS FALSE NEIGHBOUR: 'it returns false'. Refute it at one input. -/
def lzwBackWrong : ChangeSpec := { name := "lzwBack", fn := fun _ => fun
  | [d1, d2, d3] => { results := [.lit (.bool false)], args := [d1, d2, d3] }
  | _ => none }
def LzwBackWrongFalsely : Prop := lzwBackRow.holds Try.pinned (OpenSpec.ofChange lzwBackWrong)

/-- 'engraverlaw7.LzwBlocks': WHATEVER THE INPUT: true; the input reads as it did. -/
def lzwBlocksSpec : ChangeSpec := { name := "lzwBlocks", fn := fun _ => fun
  | [d1, d2] => { results := [.lit (.bool true)], args := [d1, d2] }
  | _ => none }
def lzwBlocksRow : OpenClaim := { program := "ytioghgnngdcicaa", sum := "3aef1674361bcef2d0d97ab997e2715c94f9df19a6c0ef752e486288598b7a9a", func := "engraver/engraverlaw7.LzwBlocks", spec := "lzwBlocks", unfollowed := true, recurses := true, plainKeys := false, apart := false }
def LzwBlocksSaid : Prop := lzwBlocksRow.holds Try.pinned (OpenSpec.ofChange lzwBlocksSpec)

/-- ITS FALSE NEIGHBOUR: 'it returns false'. Refute it at one input. -/
def lzwBlocksWrong : ChangeSpec := { name := "lzwBlocks", fn := fun _ => fun
  | [d1, d2] => { results := [.lit (.bool false)], args := [d1, d2] }
  | _ => none }
def LzwBlocksWrongFalsely : Prop := lzwBlocksRow.holds Try.pinned (OpenSpec.ofChange lzwBlocksWrong)

/- THE SECOND FORM. 'bulk': how many values and letters a reading holds, each counted each time it is reached (what is shared counts as often as it is met; a slice's spare places count too). A statement '..UptoSaid' is the law's where the arguments, and the package variables that the reading takes, are together of bulk at most 1048576: NARROWER than '..Said'. Prove '..Said' where nothing that the law and all that it calls make is longer than what came in: it says more and counts as full. Else prove '..UptoSaid'. A law counts once. -/
mutual
def uptoBulk {H : Type} : DataW H → Nat
  | .lit (.string bytes) => bytes.length + 1
  | .lit _ => 1
  | .nil => 1
  | .ptr d => uptoBulk d + 1
  | .slice elems spare => uptoBulkAll elems + uptoBulkAll spare + 1
  | .agg parts => uptoBulkAll parts + 1
  | .iface _ d => uptoBulk d + 1
  | .map entries => uptoBulkEntries entries + 1
  | .held _ => 1
def uptoBulkAll {H : Type} : List (DataW H) → Nat
  | [] => 0
  | d :: r => uptoBulk d + uptoBulkAll r
def uptoBulkEntries {H : Type} : List (Lit × DataW H) → Nat
  | [] => 0
  | x :: r => uptoBulkEntry x + uptoBulkEntries r
def uptoBulkEntry {H : Type} : Lit × DataW H → Nat
  | (.string bytes, d) => bytes.length + uptoBulk d + 1
  | (_, d) => uptoBulk d + 1
 end
def uptoSmall : (H : Type) → List (DataW H) → Bool := fun _ ds => decide (uptoBulkAll ds ≤ 1048576)
def OpenSpec.upto (s : _root_.Go.ChangeSpec) : _root_.Go.OpenSpec := { _root_.Go.OpenSpec.ofChange s with cond := some uptoSmall }

/-- 'engraverlaw7.LzwReads', WHERE WHAT IT READS IS OF BULK AT MOST 1048576: true; the input reads as it did. -/
def lzwReadsUptoRow : OpenClaim := { program := "ytioghgnngdcicaa", sum := "3aef1674361bcef2d0d97ab997e2715c94f9df19a6c0ef752e486288598b7a9a", func := "engraver/engraverlaw7.LzwReads", spec := "lzwReads", unfollowed := true, recurses := true, plainKeys := false, apart := false, narrowed := true }
def LzwReadsUptoSaid : Prop := lzwReadsUptoRow.holds Try.pinned (OpenSpec.upto lzwReadsSpec)

/-- 'engraverlaw7.LzwSlices', WHERE WHAT IT READS IS OF BULK AT MOST 1048576: true; the input reads as it did. -/
def lzwSlicesUptoRow : OpenClaim := { program := "ytioghgnngdcicaa", sum := "3aef1674361bcef2d0d97ab997e2715c94f9df19a6c0ef752e486288598b7a9a", func := "engraver/engraverlaw7.LzwSlices", spec := "lzwSlices", unfollowed := true, recurses := true, plainKeys := false, apart := false, narrowed := true }
def LzwSlicesUptoSaid : Prop := lzwSlicesUptoRow.holds Try.pinned (OpenSpec.upto lzwSlicesSpec)

/-- 'engraverlaw7.LzwFull', WHERE WHAT IT READS IS OF BULK AT MOST 1048576: true; the input reads as it did. -/
def lzwFullUptoRow : OpenClaim := { program := "ytioghgnngdcicaa", sum := "3aef1674361bcef2d0d97ab997e2715c94f9df19a6c0ef752e486288598b7a9a", func := "engraver/engraverlaw7.LzwFull", spec := "lzwFull", unfollowed := true, recurses := true, plainKeys := false, apart := false, narrowed := true }
def LzwFullUptoSaid : Prop := lzwFullUptoRow.holds Try.pinned (OpenSpec.upto lzwFullSpec)

/-- 'engraverlaw7.LzwRuns', WHERE WHAT IT READS IS OF BULK AT MOST 1048576: true; the input reads as it did. -/
def lzwRunsUptoRow : OpenClaim := { program := "ytioghgnngdcicaa", sum := "3aef1674361bcef2d0d97ab997e2715c94f9df19a6c0ef752e486288598b7a9a", func := "engraver/engraverlaw7.LzwRuns", spec := "lzwRuns", unfollowed := true, recurses := true, plainKeys := false, apart := false, narrowed := true }
def LzwRunsUptoSaid : Prop := lzwRunsUptoRow.holds Try.pinned (OpenSpec.upto lzwRunsSpec)

/-- 'engraverlaw7.LzwClears', WHERE WHAT IT READS IS OF BULK AT MOST 1048576: true; the input reads as it did. -/
def lzwClearsUptoRow : OpenClaim := { program := "ytioghgnngdcicaa", sum := "3aef1674361bcef2d0d97ab997e2715c94f9df19a6c0ef752e486288598b7a9a", func := "engraver/engraverlaw7.LzwClears", spec := "lzwClears", unfollowed := true, recurses := true, plainKeys := false, apart := false, narrowed := true }
def LzwClearsUptoSaid : Prop := lzwClearsUptoRow.holds Try.pinned (OpenSpec.upto lzwClearsSpec)

/-- 'engraverlaw7.LzwKnown', WHERE WHAT IT READS IS OF BULK AT MOST 1048576: true; the input reads as it did. -/
def lzwKnownUptoRow : OpenClaim := { program := "ytioghgnngdcicaa", sum := "3aef1674361bcef2d0d97ab997e2715c94f9df19a6c0ef752e486288598b7a9a", func := "engraver/engraverlaw7.LzwKnown", spec := "lzwKnown", unfollowed := true, recurses := true, plainKeys := false, apart := false, narrowed := true }
def LzwKnownUptoSaid : Prop := lzwKnownUptoRow.holds Try.pinned (OpenSpec.upto lzwKnownSpec)

/-- 'engraverlaw7.LzwBack', WHERE WHAT IT READS IS OF BULK AT MOST 1048576: true; the input reads as it did. -/
def lzwBackUptoRow : OpenClaim := { program := "ytioghgnngdcicaa", sum := "3aef1674361bcef2d0d97ab997e2715c94f9df19a6c0ef752e486288598b7a9a", func := "engraver/engraverlaw7.LzwBack", spec := "lzwBack", unfollowed := true, recurses := true, plainKeys := false, apart := false, narrowed := true }
def LzwBackUptoSaid : Prop := lzwBackUptoRow.holds Try.pinned (OpenSpec.upto lzwBackSpec)

/-- 'engraverlaw7.LzwBlocks', WHERE WHAT IT READS IS OF BULK AT MOST 1048576: true; the input reads as it did. -/
def lzwBlocksUptoRow : OpenClaim := { program := "ytioghgnngdcicaa", sum := "3aef1674361bcef2d0d97ab997e2715c94f9df19a6c0ef752e486288598b7a9a", func := "engraver/engraverlaw7.LzwBlocks", spec := "lzwBlocks", unfollowed := true, recurses := true, plainKeys := false, apart := false, narrowed := true }
def LzwBlocksUptoSaid : Prop := lzwBlocksUptoRow.holds Try.pinned (OpenSpec.upto lzwBlocksSpec)

end Rows
end Go.Proofs.Ytioghgnngdcicaa
