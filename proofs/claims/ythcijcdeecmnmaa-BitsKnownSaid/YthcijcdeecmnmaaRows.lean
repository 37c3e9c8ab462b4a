/-
  No cell of these rows narrows 'for every input' (looked for: loops, veiled, ifaces, maps, wideKeys, modest, calm, conditions, laid).
  DERIVED. THE GIVEN ROWS OF THIS SEAT. 6 by the template 'for every input the law returns true; each argument reads behind the call as it read before'; 0 by the template 'total and deterministic' (their statements: YthcijcdeecmnmaaTotals.lean).
  GIVEN WITH THE SEED: the statements are not yours to turn. If you find one false, say at which input.
  Laid BY PROGRAM, IN A SANDBOX (cutbox-rows.mjs): the forced cells as the released guide's own fill.sh prints them over the translation 9897167d970b77dc… (all of the seat's roots in one cut). By AI agents, Wed Nov 11 2026. No macro, syntax, notation, axiom, sorry.
-/
import Derived.Test.YthcijcdeecmnmaaChecked
import GoSem.Claim
import GoSem.ClaimJoined
import GoSem.ClaimMapViews
import Derived.JoinedTies
import Derived.KernelRfl
namespace Go.Proofs.Ythcijcdeecmnmaa
/- THE CELL 'sum', in the pinned program and in every row, IS THE sha256 OF THE DUMP (.gsa) THAT YthcijcdeecmnmaaProg.lean LOADS. Nothing in Lean hashes anything: it is a label: what it is worth is what the hold of that sum in a sandbox is worth. -/
noncomputable def Try.pinned : Pinned := { name := "ythcijcdeecmnmaa", sum := "9897167d970b77dca8cdb5cbbce06b18767cda6da4469568cd2b3e6b4988b5c1", checked := Try.checked }
namespace Rows
def none {H : Type} : Left H := { results := [], args := [] }

/-- 'engraverlaw1.BitsHigh': WHATEVER THE INPUT: true; the input reads as it did. -/
def bitsHighSpec : ChangeSpec := { name := "bitsHigh", fn := fun _ => fun
  | [d1, d2] => { results := [.lit (.bool true)], args := [d1, d2] }
  | _ => none }
def bitsHighRow : OpenClaim := { program := "ythcijcdeecmnmaa", sum := "9897167d970b77dca8cdb5cbbce06b18767cda6da4469568cd2b3e6b4988b5c1", func := "engraver/engraverlaw1.BitsHigh", spec := "bitsHigh", unfollowed := true, recurses := true, apart := false }
def BitsHighSaid : Prop := bitsHighRow.holds Try.pinned (OpenSpec.ofChange bitsHighSpec)

/-- ITS FALSE NEIGHBOUR: 'it returns false'. Refute it at one input. -/
def bitsHighWrong : ChangeSpec := { name := "bitsHigh", fn := fun _ => fun
  | [d1, d2] => { results := [.lit (.bool false)], args := [d1, d2] }
  | _ => none }
def BitsHighWrongFalsely : Prop := bitsHighRow.holds Try.pinned (OpenSpec.ofChange bitsHighWrong)

/-- 'engraverlaw1.BitsLow': WHATEVER THE INPUT: true; the input reads as it did. -/
def bitsLowSpec : ChangeSpec := { name := "bitsLow", fn := fun _ => fun
  | [d1, d2] => { results := [.lit (.bool true)], args := [d1, d2] }
  | _ => none }
def bitsLowRow : OpenClaim := { program := "ythcijcdeecmnmaa", sum := "9897167d970b77dca8cdb5cbbce06b18767cda6da4469568cd2b3e6b4988b5c1", func := "engraver/engraverlaw1.BitsLow", spec := "bitsLow", unfollowed := true, recurses := true, apart := false }
def BitsLowSaid : Prop := bitsLowRow.holds Try.pinned (OpenSpec.ofChange bitsLowSpec)

/-- ITS FALSE NEIGHBOUR: 'it returns false'. Refute it at one input. -/
def bitsLowWrong : ChangeSpec := { name := "bitsLow", fn := fun _ => fun
  | [d1, d2] => { results := [.lit (.bool false)], args := [d1, d2] }
  | _ => none }
def BitsLowWrongFalsely : Prop := bitsLowRow.holds Try.pinned (OpenSpec.ofChange bitsLowWrong)

/-- 'engraverlaw1.BitsKnown': WHATEVER THE INPUT: true; the input reads as it did. -/
def bitsKnownSpec : ChangeSpec := { name := "bitsKnown", fn := fun _ => fun
  | [] => { results := [.lit (.bool true)], args := [] }
  | _ => none }
def bitsKnownRow : OpenClaim := { program := "ythcijcdeecmnmaa", sum := "9897167d970b77dca8cdb5cbbce06b18767cda6da4469568cd2b3e6b4988b5c1", func := "engraver/engraverlaw1.BitsKnown", spec := "bitsKnown", unfollowed := true, recurses := true, apart := false }
def BitsKnownSaid : Prop := bitsKnownRow.holds Try.pinned (OpenSpec.ofChange bitsKnownSpec)

/-- ITS FALSE NEIGHBOUR: 'it returns false'. Refute it at one input. -/
def bitsKnownWrong : ChangeSpec := { name := "bitsKnown", fn := fun _ => fun
  | [] => { results := [.lit (.bool false)], args := [] }
  | _ => none }
def BitsKnownWrongFalsely : Prop := bitsKnownRow.holds Try.pinned (OpenSpec.ofChange bitsKnownWrong)

/-- 'engraverlaw1.BitsWrite': WHATEVER THE INPUT: true; the input reads as it did. -/
def bitsWriteSpec : ChangeSpec := { name := "bitsWrite", fn := fun _ => fun
  | [d1, d2] => { results := [.lit (.bool true)], args := [d1, d2] }
  | _ => none }
def bitsWriteRow : OpenClaim := { program := "ythcijcdeecmnmaa", sum := "9897167d970b77dca8cdb5cbbce06b18767cda6da4469568cd2b3e6b4988b5c1", func := "engraver/engraverlaw1.BitsWrite", spec := "bitsWrite", unfollowed := true, recurses := true, apart := false }
def BitsWriteSaid : Prop := bitsWriteRow.holds Try.pinned (OpenSpec.ofChange bitsWriteSpec)

/-- ITS FALSE NEIGHBOUR: 'it returns false'. Refute it at one input. -/
def bitsWriteWrong : ChangeSpec := { name := "bitsWrite", fn := fun _ => fun
  | [d1, d2] => { results := [.lit (.bool false)], args := [d1, d2] }
  | _ => none }
def BitsWriteWrongFalsely : Prop := bitsWriteRow.holds Try.pinned (OpenSpec.ofChange bitsWriteWrong)

/-- 'engraverlaw1.BitsEnds': WHATEVER THE INPUT: true; the input reads as it did. -/
def bitsEndsSpec : ChangeSpec := { name := "bitsEnds", fn := fun _ => fun
  | [d1, d2] => { results := [.lit (.bool true)], args := [d1, d2] }
  | _ => none }
def bitsEndsRow : OpenClaim := { program := "ythcijcdeecmnmaa", sum := "9897167d970b77dca8cdb5cbbce06b18767cda6da4469568cd2b3e6b4988b5c1", func := "engraver/engraverlaw1.BitsEnds", spec := "bitsEnds", unfollowed := true, recurses := true, apart := false }
def BitsEndsSaid : Prop := bitsEndsRow.holds Try.pinned (OpenSpec.ofChange bitsEndsSpec)

/-- ITS FALSE NEIGHBOUR: 'it returns false'. Refute it at one input. -/
def bitsEndsWrong : ChangeSpec := { name := "bitsEnds", fn := fun _ => fun
  | [d1, d2] => { results := [.lit (.bool false)], args := [d1, d2] }
  | _ => none }
def BitsEndsWrongFalsely : Prop := bitsEndsRow.holds Try.pinned (OpenSpec.ofChange bitsEndsWrong)

/-- 'engraverlaw1.BitsBack': WHATEVER THE INPUT: true; the input reads as it did. -/
def bitsBackSpec : ChangeSpec := { name := "bitsBack", fn := fun _ => fun
  | [d1, d2] => { results := [.lit (.bool true)], args := [d1, d2] }
  | _ => none }
def bitsBackRow : OpenClaim := { program := "ythcijcdeecmnmaa", sum := "9897167d970b77dca8cdb5cbbce06b18767cda6da4469568cd2b3e6b4988b5c1", func := "engraver/engraverlaw1.BitsBack", spec := "bitsBack", unfollowed := true, recurses := true, apart := false }
def BitsBackSaid : Prop := bitsBackRow.holds Try.pinned (OpenSpec.ofChange bitsBackSpec)

/-- ITS FALSE NEIGHBOUR: 'it returns false'. Refute it at one input. -/
def bitsBackWrong : ChangeSpec := { name := "bitsBack", fn := fun _ => fun
  | [d1, d2] => { results := [.lit (.bool false)], args := [d1, d2] }
  | _ => none }
def BitsBackWrongFalsely : Prop := bitsBackRow.holds Try.pinned (OpenSpec.ofChange bitsBackWrong)

/- THE SECOND FORM. 'bulk': how many values and letters a reading holds, each counted each time it is reached (what is shared counts as often as it is met; a slice's spare places count too). A statement '..UptoSaid' is the law's where the arguments, and the package variables that the reading takes, are together of bulk at most 1048576: NARROWER than '..Said'. Prove '..Said' where nothing that the law and all that it calls make is longer than what came in: it says more and counts as full. Else prove '..UptoSaid'. A law counts once. -/
mutual
def uptoBulk {H : Type} : DataW H → Nat
  | .lit (.string bytes) => bytes.length + 1
  | .lit _ => 1
  | .nil => 1
  | .ptr d => uptoBulk d + 1
  | .slice elems spare => uptoBulkAll elems + uptoBulkAll spare + 1
  | .agg parts => uptoBulkAll parts + 1
  | .iface _ d => uptoBulk d + 1
  | .map entries => uptoBulkEntries entries + 1
  | .held _ => 1
def uptoBulkAll {H : Type} : List (DataW H) → Nat
  | [] => 0
  | d :: r => uptoBulk d + uptoBulkAll r
def uptoBulkEntries {H : Type} : List (Lit × DataW H) → Nat
  | [] => 0
  | x :: r => uptoBulkEntry x + uptoBulkEntries r
def uptoBulkEntry {H : Type} : Lit × DataW H → Nat
  | (.string bytes, d) => bytes.length + uptoBulk d + 1
  | (_, d) => uptoBulk d + 1
 end
def uptoSmall : (H : Type) → List (DataW H) → Bool := fun _ ds => decide (uptoBulkAll ds ≤ 1048576)
def OpenSpec.upto (s : _root_.Go.ChangeSpec) : _root_.Go.OpenSpec := { _root_.Go.OpenSpec.ofChange s with cond := some uptoSmall }

/-- 'engraverlaw1.BitsHigh', WHERE WHAT IT READS IS OF BULK AT MOST 1048576: true; the input reads as it did. -/
def bitsHighUptoRow : OpenClaim := { program := "ythcijcdeecmnmaa", sum := "9897167d970b77dca8cdb5cbbce06b18767cda6da4469568cd2b3e6b4988b5c1", func := "engraver/engraverlaw1.BitsHigh", spec := "bitsHigh", unfollowed := true, recurses := true, apart := false, narrowed := true }
def BitsHighUptoSaid : Prop := bitsHighUptoRow.holds Try.pinned (OpenSpec.upto bitsHighSpec)

/-- 'engraverlaw1.BitsLow', WHERE WHAT IT READS IS OF BULK AT MOST 1048576: true; the input reads as it did. -/
def bitsLowUptoRow : OpenClaim := { program := "ythcijcdeecmnmaa", sum := "9897167d970b77dca8cdb5cbbce06b18767cda6da4469568cd2b3e6b4988b5c1", func := "engraver/engraverlaw1.BitsLow", spec := "bitsLow", unfollowed := true, recurses := true, apart := false, narrowed := true }
def BitsLowUptoSaid : Prop := bitsLowUptoRow.holds Try.pinned (OpenSpec.upto bitsLowSpec)

/-- 'engraverlaw1.BitsKnown', WHERE WHAT IT READS IS OF BULK AT MOST 1048576: true; the input reads as it did. -/
def bitsKnownUptoRow : OpenClaim := { program := "ythcijcdeecmnmaa", sum := "9897167d970b77dca8cdb5cbbce06b18767cda6da4469568cd2b3e6b4988b5c1", func := "engraver/engraverlaw1.BitsKnown", spec := "bitsKnown", unfollowed := true, recurses := true, apart := false, narrowed := true }
def BitsKnownUptoSaid : Prop := bitsKnownUptoRow.holds Try.pinned (OpenSpec.upto bitsKnownSpec)

/-- 'engraverlaw1.BitsWrite', WHERE WHAT IT READS IS OF BULK AT MOST 1048576: true; the input reads as it did. -/
def bitsWriteUptoRow : OpenClaim := { program := "ythcijcdeecmnmaa", sum := "9897167d970b77dca8cdb5cbbce06b18767cda6da4469568cd2b3e6b4988b5c1", func := "engraver/engraverlaw1.BitsWrite", spec := "bitsWrite", unfollowed := true, recurses := true, apart := false, narrowed := true }
def BitsWriteUptoSaid : Prop := bitsWriteUptoRow.holds Try.pinned (OpenSpec.upto bitsWriteSpec)

/-- 'engraverlaw1.BitsEnds', WHERE WHAT IT READS IS OF BULK AT MOST 1048576: true; the input reads as it did. -/
def bitsEndsUptoRow : OpenClaim := { program := "ythcijcdeecmnmaa", sum := "9897167d970b77dca8cdb5cbbce06b18767cda6da4469568cd2b3e6b4988b5c1", func := "engraver/engraverlaw1.BitsEnds", spec := "bitsEnds", unfollowed := true, recurses := true, apart := false, narrowed := true }
def BitsEndsUptoSaid : Prop := bitsEndsUptoRow.holds Try.pinned (OpenSpec.upto bitsEndsSpec)

/-- 'engraverlaw1.BitsBack', WHERE WHAT IT READS IS OF BULK AT MOST 1048576: true; the input reads as it did. -/
def bitsBackUptoRow : OpenClaim := { program := "ythcijcdeecmnmaa", sum := "9897167d970b77dca8cdb5cbbce06b18767cda6da4469568cd2b3e6b4988b5c1", func := "engraver/engraverlaw1.BitsBack", spec := "bitsBack", unfollowed := true, recurses := true, apart := false, narrowed := true }
def BitsBackUptoSaid : Prop := bitsBackUptoRow.holds Try.pinned (OpenSpec.upto bitsBackSpec)

end Rows
end Go.Proofs.Ythcijcdeecmnmaa
