/-
  No cell of these rows narrows 'for every input' (looked for: loops, veiled, ifaces, maps, wideKeys, modest, calm, conditions, laid).
  DERIVED. THE GIVEN ROWS OF THIS SEAT. 5 by the template 'for every input the law returns true; each argument reads behind the call as it read before'; 0 by the template 'total and deterministic' (their statements: YtkjlejkcedemlaaTotals.lean).
  GIVEN WITH THE SEED: the statements are not yours to turn. If you find one false, say at which input.
  Laid BY PROGRAM, IN A SANDBOX (cutbox-rows.mjs): the forced cells as the released guide's own fill.sh prints them over the translation 5d14903d77f1d9d1… (all of the seat's roots in one cut). By AI agents, Wed Nov 11 2026. No macro, syntax, notation, axiom, sorry.
-/
import Derived.Test.YtkjlejkcedemlaaChecked
import GoSem.Claim
import GoSem.ClaimJoined
import GoSem.ClaimMapViews
import Derived.JoinedTies
import Derived.KernelRfl
namespace Go.Proofs.Ytkjlejkcedemlaa
/- THE CELL 'sum', in the pinned program and in every row, IS THE sha256 OF THE DUMP (.gsa) THAT YtkjlejkcedemlaaProg.lean LOADS. Nothing in Lean hashes anything: it is a label: what it is worth is what the hold of that sum in a sandbox is worth. -/
noncomputable def Try.pinned : Pinned := { name := "ytkjlejkcedemlaa", sum := "5d14903d77f1d9d1c77434095412b15308049898d5c2427aae0bddc2d47279f7", checked := Try.checked }
namespace Rows
def none {H : Type} : Left H := { results := [], args := [] }

/-- 'engraverlaw16.GifreadDecodes': WHATEVER THE INPUT: true; the input reads as it did. -/
def gifreadDecodesSpec : ChangeSpec := { name := "gifreadDecodes", fn := fun _ => fun
  | [d] => { results := [.lit (.bool true)], args := [d] }
  | _ => none }
def gifreadDecodesRow : OpenClaim := { program := "ytkjlejkcedemlaa", sum := "5d14903d77f1d9d1c77434095412b15308049898d5c2427aae0bddc2d47279f7", func := "engraver/engraverlaw16.GifreadDecodes", spec := "gifreadDecodes", unfollowed := true, recurses := true, apart := false }
def GifreadDecodesSaid : Prop := gifreadDecodesRow.holds Try.pinned (OpenSpec.ofChange gifreadDecodesSpec)

/-- ITS FALSE NEIGHBOUR: 'it returns false'. Refute it at one input. -/
def gifreadDecodesWrong : ChangeSpec := { name := "gifreadDecodes", fn := fun _ => fun
  | [d] => { results := [.lit (.bool false)], args := [d] }
  | _ => none }
def GifreadDecodesWrongFalsely : Prop := gifreadDecodesRow.holds Try.pinned (OpenSpec.ofChange gifreadDecodesWrong)

/-- 'engraverlaw16.GifreadRows': WHATEVER THE INPUT: true; the input reads as it did. -/
def gifreadRowsSpec : ChangeSpec := { name := "gifreadRows", fn := fun _ => fun
  | [d] => { results := [.lit (.bool true)], args := [d] }
  | _ => none }
def gifreadRowsRow : OpenClaim := { program := "ytkjlejkcedemlaa", sum := "5d14903d77f1d9d1c77434095412b15308049898d5c2427aae0bddc2d47279f7", func := "engraver/engraverlaw16.GifreadRows", spec := "gifreadRows", unfollowed := true, recurses := true, apart := false }
def GifreadRowsSaid : Prop := gifreadRowsRow.holds Try.pinned (OpenSpec.ofChange gifreadRowsSpec)

/-- ITS FALSE NEIGHBOUR: 'it returns false'. Refute it at one input. -/
def gifreadRowsWrong : ChangeSpec := { name := "gifreadRows", fn := fun _ => fun
  | [d] => { results := [.lit (.bool false)], args := [d] }
  | _ => none }
def GifreadRowsWrongFalsely : Prop := gifreadRowsRow.holds Try.pinned (OpenSpec.ofChange gifreadRowsWrong)

/-- 'engraverlaw16.GifreadPlain': WHATEVER THE INPUT: true; the input reads as it did. -/
def gifreadPlainSpec : ChangeSpec := { name := "gifreadPlain", fn := fun _ => fun
  | [d1, d2] => { results := [.lit (.bool true)], args := [d1, d2] }
  | _ => none }
def gifreadPlainRow : OpenClaim := { program := "ytkjlejkcedemlaa", sum := "5d14903d77f1d9d1c77434095412b15308049898d5c2427aae0bddc2d47279f7", func := "engraver/engraverlaw16.GifreadPlain", spec := "gifreadPlain", unfollowed := true, recurses := true, apart := false }
def GifreadPlainSaid : Prop := gifreadPlainRow.holds Try.pinned (OpenSpec.ofChange gifreadPlainSpec)

/-- ITS FALSE NEIGHBOUR: 'it returns false'. Refute it at one input. -/
def gifreadPlainWrong : ChangeSpec := { name := "gifreadPlain", fn := fun _ => fun
  | [d1, d2] => { results := [.lit (.bool false)], args := [d1, d2] }
  | _ => none }
def GifreadPlainWrongFalsely : Prop := gifreadPlainRow.holds Try.pinned (OpenSpec.ofChange gifreadPlainWrong)

/-- 'engraverlaw16.GifreadFrames': WHATEVER THE INPUT: true; the input reads as it did. -/
def gifreadFramesSpec : ChangeSpec := { name := "gifreadFrames", fn := fun _ => fun
  | [d1, d2] => { results := [.lit (.bool true)], args := [d1, d2] }
  | _ => none }
def gifreadFramesRow : OpenClaim := { program := "ytkjlejkcedemlaa", sum := "5d14903d77f1d9d1c77434095412b15308049898d5c2427aae0bddc2d47279f7", func := "engraver/engraverlaw16.GifreadFrames", spec := "gifreadFrames", unfollowed := true, recurses := true, apart := false }
def GifreadFramesSaid : Prop := gifreadFramesRow.holds Try.pinned (OpenSpec.ofChange gifreadFramesSpec)

/-- ITS FALSE NEIGHBOUR: 'it returns false'. Refute it at one input. -/
def gifreadFramesWrong : ChangeSpec := { name := "gifreadFrames", fn := fun _ => fun
  | [d1, d2] => { results := [.lit (.bool false)], args := [d1, d2] }
  | _ => none }
def GifreadFramesWrongFalsely : Prop := gifreadFramesRow.holds Try.pinned (OpenSpec.ofChange gifreadFramesWrong)

/-- 'engraverlaw16.GifreadTold': WHATEVER THE INPUT: true; the input reads as it did. -/
def gifreadToldSpec : ChangeSpec := { name := "gifreadTold", fn := fun _ => fun
  | [d1, d2, d3] => { results := [.lit (.bool true)], args := [d1, d2, d3] }
  | _ => none }
def gifreadToldRow : OpenClaim := { program := "ytkjlejkcedemlaa", sum := "5d14903d77f1d9d1c77434095412b15308049898d5c2427aae0bddc2d47279f7", func := "engraver/engraverlaw16.GifreadTold", spec := "gifreadTold", unfollowed := true, recurses := true, apart := false }
def GifreadToldSaid : Prop := gifreadToldRow.holds Try.pinned (OpenSpec.ofChange gifreadToldSpec)

/-- ITS FALSE NEIGHBOUR: 'it returns false'. Refute it at one input. -/
def gifreadToldWrong : ChangeSpec := { name := "gifreadTold", fn := fun _ => fun
  | [d1, d2, d3] => { results := [.lit (.bool false)], args := [d1, d2, d3] }
  | _ => none }
def GifreadToldWrongFalsely : Prop := gifreadToldRow.holds Try.pinned (OpenSpec.ofChange gifreadToldWrong)

/- THE SECOND FORM. 'bulk': how many values and letters a reading holds, each counted each time it is reached (what is shared counts as often as it is met; a slice's spare places count too). A statement '..UptoSaid' is the law's where the arguments, and the package variables that the reading takes, are together of bulk at most 1048576: NARROWER than '..Said'. Prove '..Said' where nothing that the law and all that it calls make is longer than what came in: it says more and counts as full. Else prove '..UptoSaid'. A law counts once. -/
mutual
def uptoBulk {H : Type} : DataW H → Nat
  | .lit (.string bytes) => bytes.length + 1
  | .lit _ => 1
  | .nil => 1
  | .ptr d => uptoBulk d + 1
  | .slice elems spare => uptoBulkAll elems + uptoBulkAll spare + 1
  | .agg parts => uptoBulkAll parts + 1
  | .iface _ d => uptoBulk d + 1
  | .map entries => uptoBulkEntries entries + 1
  | .held _ => 1
def uptoBulkAll {H : Type} : List (DataW H) → Nat
  | [] => 0
  | d :: r => uptoBulk d + uptoBulkAll r
def uptoBulkEntries {H : Type} : List (Lit × DataW H) → Nat
  | [] => 0
  | x :: r => uptoBulkEntry x + uptoBulkEntries r
def uptoBulkEntry {H : Type} : Lit × DataW H → Nat
  | (.string bytes, d) => bytes.length + uptoBulk d + 1
  | (_, d) => uptoBulk d + 1
 end
def uptoSmall : (H : Type) → List (DataW H) → Bool := fun _ ds => decide (uptoBulkAll ds ≤ 1048576)
def OpenSpec.upto (s : _root_.Go.ChangeSpec) : _root_.Go.OpenSpec := { _root_.Go.OpenSpec.ofChange s with cond := some uptoSmall }

/-- 'engraverlaw16.GifreadDecodes', WHERE WHAT IT READS IS OF BULK AT MOST 1048576: true; the input reads as it did. -/
def gifreadDecodesUptoRow : OpenClaim := { program := "ytkjlejkcedemlaa", sum := "5d14903d77f1d9d1c77434095412b15308049898d5c2427aae0bddc2d47279f7", func := "engraver/engraverlaw16.GifreadDecodes", spec := "gifreadDecodes", unfollowed := true, recurses := true, apart := false, narrowed := true }
def GifreadDecodesUptoSaid : Prop := gifreadDecodesUptoRow.holds Try.pinned (OpenSpec.upto gifreadDecodesSpec)

/-- 'engraverlaw16.GifreadRows', WHERE WHAT IT READS IS OF BULK AT MOST 1048576: true; the input reads as it did. -/
def gifreadRowsUptoRow : OpenClaim := { program := "ytkjlejkcedemlaa", sum := "5d14903d77f1d9d1c77434095412b15308049898d5c2427aae0bddc2d47279f7", func := "engraver/engraverlaw16.GifreadRows", spec := "gifreadRows", unfollowed := true, recurses := true, apart := false, narrowed := true }
def GifreadRowsUptoSaid : Prop := gifreadRowsUptoRow.holds Try.pinned (OpenSpec.upto gifreadRowsSpec)

/-- 'engraverlaw16.GifreadPlain', WHERE WHAT IT READS IS OF BULK AT MOST 1048576: true; the input reads as it did. -/
def gifreadPlainUptoRow : OpenClaim := { program := "ytkjlejkcedemlaa", sum := "5d14903d77f1d9d1c77434095412b15308049898d5c2427aae0bddc2d47279f7", func := "engraver/engraverlaw16.GifreadPlain", spec := "gifreadPlain", unfollowed := true, recurses := true, apart := false, narrowed := true }
def GifreadPlainUptoSaid : Prop := gifreadPlainUptoRow.holds Try.pinned (OpenSpec.upto gifreadPlainSpec)

/-- 'engraverlaw16.GifreadFrames', WHERE WHAT IT READS IS OF BULK AT MOST 1048576: true; the input reads as it did. -/
def gifreadFramesUptoRow : OpenClaim := { program := "ytkjlejkcedemlaa", sum := "5d14903d77f1d9d1c77434095412b15308049898d5c2427aae0bddc2d47279f7", func := "engraver/engraverlaw16.GifreadFrames", spec := "gifreadFrames", unfollowed := true, recurses := true, apart := false, narrowed := true }
def GifreadFramesUptoSaid : Prop := gifreadFramesUptoRow.holds Try.pinned (OpenSpec.upto gifreadFramesSpec)

/-- 'engraverlaw16.GifreadTold', WHERE WHAT IT READS IS OF BULK AT MOST 1048576: true; the input reads as it did. -/
def gifreadToldUptoRow : OpenClaim := { program := "ytkjlejkcedemlaa", sum := "5d14903d77f1d9d1c77434095412b15308049898d5c2427aae0bddc2d47279f7", func := "engraver/engraverlaw16.GifreadTold", spec := "gifreadTold", unfollowed := true, recurses := true, apart := false, narrowed := true }
def GifreadToldUptoSaid : Prop := gifreadToldUptoRow.holds Try.pinned (OpenSpec.upto gifreadToldSpec)

end Rows
end Go.Proofs.Ytkjlejkcedemlaa
