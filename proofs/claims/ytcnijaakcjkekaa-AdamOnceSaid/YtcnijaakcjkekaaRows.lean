/-
  No cell of these rows narrows 'for every input' (looked for: loops, veiled, ifaces, maps, wideKeys, modest, calm, conditions, laid).
  DERIVED. THE GIVEN ROWS OF THIS SEAT. 4 by the template 'for every input the law returns true; each argument reads behind the call as it read before'; 0 by the template 'total and deterministic' (their statements: YtcnijaakcjkekaaTotals.lean).
  GIVEN WITH THE SEED: the statements are not yours to turn. If you find one false, say at which input.
  Laid BY PROGRAM, IN A SANDBOX (cutbox-rows.mjs): the forced cells as the released guide's own fill.sh prints them over the translation d808821a5531d836… (all of the seat's roots in one cut). By AI agents, Wed Nov 11 2026. No macro, syntax, notation, axiom, sorry.
-/
import Derived.Test.YtcnijaakcjkekaaChecked
import GoSem.Claim
import GoSem.ClaimJoined
import GoSem.ClaimMapViews
import Derived.JoinedTies
import Derived.KernelRfl
namespace Go.Proofs.Ytcnijaakcjkekaa
/- THE CELL 'sum', in the pinned program and in every row, IS THE sha256 OF THE DUMP (.gsa) THAT YtcnijaakcjkekaaProg.lean LOADS. Nothing in Lean hashes anything: it is a label: what it is worth is what the hold of that sum in a sandbox is worth. -/
noncomputable def Try.pinned : Pinned := { name := "ytcnijaakcjkekaa", sum := "d808821a5531d8368fa0799fc37fb13162bff667f334a4a4acc0f8ede6b8a4d4", checked := Try.checked }
namespace Rows
def none {H : Type} : Left H := { results := [], args := [] }

/-- 'engraverlaw13.AdamPasses': WHATEVER THE INPUT: true; the input reads as it did. -/
def adamPassesSpec : ChangeSpec := { name := "adamPasses", fn := fun _ => fun
  | [d1, d2] => { results := [.lit (.bool true)], args := [d1, d2] }
  | _ => none }
def adamPassesRow : OpenClaim := { program := "ytcnijaakcjkekaa", sum := "d808821a5531d8368fa0799fc37fb13162bff667f334a4a4acc0f8ede6b8a4d4", func := "engraver/engraverlaw13.AdamPasses", spec := "adamPasses", apart := false }
def AdamPassesSaid : Prop := adamPassesRow.holds Try.pinned (OpenSpec.ofChange adamPassesSpec)

/-- ITS FALSE NEIGHBOUR: 'it returns false'. Refute it at one input. -/
def adamPassesWrong : ChangeSpec := { name := "adamPasses", fn := fun _ => fun
  | [d1, d2] => { results := [.lit (.bool false)], args := [d1, d2] }
  | _ => none }
def AdamPassesWrongFalsely : Prop := adamPassesRow.holds Try.pinned (OpenSpec.ofChange adamPassesWrong)

/-- 'engraverlaw13.AdamOnce': WHATEVER THE INPUT: true; the input reads as it did. -/
def adamOnceSpec : ChangeSpec := { name := "adamOnce", fn := fun _ => fun
  | [d1, d2] => { results := [.lit (.bool true)], args := [d1, d2] }
  | _ => none }
def adamOnceRow : OpenClaim := { program := "ytcnijaakcjkekaa", sum := "d808821a5531d8368fa0799fc37fb13162bff667f334a4a4acc0f8ede6b8a4d4", func := "engraver/engraverlaw13.AdamOnce", spec := "adamOnce", apart := false }
def AdamOnceSaid : Prop := adamOnceRow.holds Try.pinned (OpenSpec.ofChange adamOnceSpec)

/-- ITS FALSE NEIGHBOUR: 'it returns false'. Refute it at one input. -/
def adamOnceWrong : ChangeSpec := { name := "adamOnce", fn := fun _ => fun
  | [d1, d2] => { results := [.lit (.bool false)], args := [d1, d2] }
  | _ => none }
def AdamOnceWrongFalsely : Prop := adamOnceRow.holds Try.pinned (OpenSpec.ofChange adamOnceWrong)

/-- 'engraverlaw13.AdamBytes': WHATEVER THE INPUT: true; the input reads as it did. -/
def adamBytesSpec : ChangeSpec := { name := "adamBytes", fn := fun _ => fun
  | [d1, d2, d3] => { results := [.lit (.bool true)], args := [d1, d2, d3] }
  | _ => none }
def adamBytesRow : OpenClaim := { program := "ytcnijaakcjkekaa", sum := "d808821a5531d8368fa0799fc37fb13162bff667f334a4a4acc0f8ede6b8a4d4", func := "engraver/engraverlaw13.AdamBytes", spec := "adamBytes", apart := false }
def AdamBytesSaid : Prop := adamBytesRow.holds Try.pinned (OpenSpec.ofChange adamBytesSpec)

/-- ITS FALSE NEIGHBOUR: 'it returns false'. Refute it at one input. -/
def adamBytesWrong : ChangeSpec := { name := "adamBytes", fn := fun _ => fun
  | [d1, d2, d3] => { results := [.lit (.bool false)], args := [d1, d2, d3] }
  | _ => none }
def AdamBytesWrongFalsely : Prop := adamBytesRow.holds Try.pinned (OpenSpec.ofChange adamBytesWrong)

/-- 'engraverlaw13.AdamSums': WHATEVER THE INPUT: true; the input reads as it did. -/
def adamSumsSpec : ChangeSpec := { name := "adamSums", fn := fun _ => fun
  | [d1, d2, d3] => { results := [.lit (.bool true)], args := [d1, d2, d3] }
  | _ => none }
def adamSumsRow : OpenClaim := { program := "ytcnijaakcjkekaa", sum := "d808821a5531d8368fa0799fc37fb13162bff667f334a4a4acc0f8ede6b8a4d4", func := "engraver/engraverlaw13.AdamSums", spec := "adamSums", apart := false }
def AdamSumsSaid : Prop := adamSumsRow.holds Try.pinned (OpenSpec.ofChange adamSumsSpec)

/-- ITS FALSE NEIGHBOUR: 'it returns false'. Refute it at one input. -/
def adamSumsWrong : ChangeSpec := { name := "adamSums", fn := fun _ => fun
  | [d1, d2, d3] => { results := [.lit (.bool false)], args := [d1, d2, d3] }
  | _ => none }
def AdamSumsWrongFalsely : Prop := adamSumsRow.holds Try.pinned (OpenSpec.ofChange adamSumsWrong)

/- THE SECOND FORM. 'bulk': how many values and letters a reading holds, each counted each time it is reached (what is shared counts as often as it is met; a slice's spare places count too). A statement '..UptoSaid' is the law's where the arguments, and the package variables that the reading takes, are together of bulk at most 1048576: NARROWER than '..Said'. Prove '..Said' where nothing that the law and all that it calls make is longer than what came in: it says more and counts as full. Else prove '..UptoSaid'. A law counts once. -/
mutual
def uptoBulk {H : Type} : DataW H → Nat
  | .lit (.string bytes) => bytes.length + 1
  | .lit _ => 1
  | .nil => 1
  | .ptr d => uptoBulk d + 1
  | .slice elems spare => uptoBulkAll elems + uptoBulkAll spare + 1
  | .agg parts => uptoBulkAll parts + 1
  | .iface _ d => uptoBulk d + 1
  | .map entries => uptoBulkEntries entries + 1
  | .held _ => 1
def uptoBulkAll {H : Type} : List (DataW H) → Nat
  | [] => 0
  | d :: r => uptoBulk d + uptoBulkAll r
def uptoBulkEntries {H : Type} : List (Lit × DataW H) → Nat
  | [] => 0
  | x :: r => uptoBulkEntry x + uptoBulkEntries r
def uptoBulkEntry {H : Type} : Lit × DataW H → Nat
  | (.string bytes, d) => bytes.length + uptoBulk d + 1
  | (_, d) => uptoBulk d + 1
 end
def uptoSmall : (H : Type) → List (DataW H) → Bool := fun _ ds => decide (uptoBulkAll ds ≤ 1048576)
def OpenSpec.upto (s : _root_.Go.ChangeSpec) : _root_.Go.OpenSpec := { _root_.Go.OpenSpec.ofChange s with cond := some uptoSmall }

/-- 'engraverlaw13.AdamPasses', WHERE WHAT IT READS IS OF BULK AT MOST 1048576: true; the input reads as it did. -/
def adamPassesUptoRow : OpenClaim := { program := "ytcnijaakcjkekaa", sum := "d808821a5531d8368fa0799fc37fb13162bff667f334a4a4acc0f8ede6b8a4d4", func := "engraver/engraverlaw13.AdamPasses", spec := "adamPasses", apart := false, narrowed := true }
def AdamPassesUptoSaid : Prop := adamPassesUptoRow.holds Try.pinned (OpenSpec.upto adamPassesSpec)

/-- 'engraverlaw13.AdamOnce', WHERE WHAT IT READS IS OF BULK AT MOST 1048576: true; the input reads as it did. -/
def adamOnceUptoRow : OpenClaim := { program := "ytcnijaakcjkekaa", sum := "d808821a5531d8368fa0799fc37fb13162bff667f334a4a4acc0f8ede6b8a4d4", func := "engraver/engraverlaw13.AdamOnce", spec := "adamOnce", apart := false, narrowed := true }
def AdamOnceUptoSaid : Prop := adamOnceUptoRow.holds Try.pinned (OpenSpec.upto adamOnceSpec)

/-- 'engraverlaw13.AdamBytes', WHERE WHAT IT READS IS OF BULK AT MOST 1048576: true; the input reads as it did. -/
def adamBytesUptoRow : OpenClaim := { program := "ytcnijaakcjkekaa", sum := "d808821a5531d8368fa0799fc37fb13162bff667f334a4a4acc0f8ede6b8a4d4", func := "engraver/engraverlaw13.AdamBytes", spec := "adamBytes", apart := false, narrowed := true }
def AdamBytesUptoSaid : Prop := adamBytesUptoRow.holds Try.pinned (OpenSpec.upto adamBytesSpec)

/-- 'engraverlaw13.AdamSums', WHERE WHAT IT READS IS OF BULK AT MOST 1048576: true; the input reads as it did. -/
def adamSumsUptoRow : OpenClaim := { program := "ytcnijaakcjkekaa", sum := "d808821a5531d8368fa0799fc37fb13162bff667f334a4a4acc0f8ede6b8a4d4", func := "engraver/engraverlaw13.AdamSums", spec := "adamSums", apart := false, narrowed := true }
def AdamSumsUptoSaid : Prop := adamSumsUptoRow.holds Try.pinned (OpenSpec.upto adamSumsSpec)

end Rows
end Go.Proofs.Ytcnijaakcjkekaa
