/-
  NARROWER THAN 'FOR EVERY INPUT', by the rows' own cells (each row's printed sentence says how): BmpreadDecodes: laid · BmpreadMasks: laid · BmpreadPlain: laid · BmpreadRuns: laid · BmpreadSmall: laid · BmpreadMany: laid · BmpreadTold: laid.
  DERIVED. THE GIVEN ROWS OF THIS SEAT. 7 by the template 'for every input the law returns true; each argument reads behind the call as it read before'; 0 by the template 'total and deterministic' (their statements: YtdooefnckdklmaaDoorTotals.lean).
  GIVEN WITH THE SEED: the statements are not yours to turn. If you find one false, say at which input.
  Laid BY PROGRAM, IN A SANDBOX (cutbox-rows.mjs): the forced cells as the released guide's own fill.sh prints them over the translation 758a3a3672945653… (all of the seat's roots in one cut). By AI agents, Wed Nov 11 2026. No macro, syntax, notation, axiom, sorry.
-/
import Derived.Test.YtdooefnckdklmaaDoorChecked
import GoSem.Claim
import GoSem.ClaimJoined
import GoSem.ClaimMapViews
import Derived.JoinedTies
import Derived.KernelRfl
namespace Go.Proofs.YtdooefnckdklmaaDoor
/- THE CELL 'sum', in the pinned program and in every row, IS THE sha256 OF THE DUMP (.gsa) THAT YtdooefnckdklmaaDoorProg.lean LOADS. Nothing in Lean hashes anything: it is a label: what it is worth is what the hold of that sum in a sandbox is worth. -/
noncomputable def Tryd.pinned : Pinned := { name := "ytdooefnckdklmaadoor", sum := "758a3a367294565308184eb22d46a95fb9fed712d04650d646c148ac39e8c98a", checked := Tryd.checked }
namespace Rows
def none {H : Type} : Left H := { results := [], args := [] }

/- WHAT THE LISTED PACKAGE-LEVEL VARIABLES READ AS WHEN THE CALL BEGINS. Each datum BY PROGRAM (the guide's laid-datum.mjs) off the statement by which the dump's own 'gosem.cut.vars' lays the variable. In a bare row this is a premise. The card (YtdooefnckdklmaaDoorCards.lean) ties it to the program's text. -/
def laid_math_bits_deBruijn32tab {H : Type} : DataW H := .agg [.lit (.int .u8 0), .lit (.int .u8 1), .lit (.int .u8 28), .lit (.int .u8 2), .lit (.int .u8 29), .lit (.int .u8 14), .lit (.int .u8 24), .lit (.int .u8 3), .lit (.int .u8 30), .lit (.int .u8 22), .lit (.int .u8 20), .lit (.int .u8 15), .lit (.int .u8 25), .lit (.int .u8 17), .lit (.int .u8 4), .lit (.int .u8 8), .lit (.int .u8 31), .lit (.int .u8 27), .lit (.int .u8 13), .lit (.int .u8 23), .lit (.int .u8 21), .lit (.int .u8 19), .lit (.int .u8 16), .lit (.int .u8 7), .lit (.int .u8 26), .lit (.int .u8 12), .lit (.int .u8 18), .lit (.int .u8 6), .lit (.int .u8 11), .lit (.int .u8 5), .lit (.int .u8 10), .lit (.int .u8 9)]

/-- 'engraverlaw18.BmpreadDecodes': WHATEVER THE INPUT: true; the input reads as it did. -/
def bmpreadDecodesSpec : ChangeSpec := { name := "bmpreadDecodes", fn := fun _ => fun
  | [d] => { results := [.lit (.bool true)], args := [d] }
  | _ => none }
def bmpreadDecodesRow : OpenClaim := { program := "ytdooefnckdklmaadoor", sum := "758a3a367294565308184eb22d46a95fb9fed712d04650d646c148ac39e8c98a", func := "engraver/engraverlaw18.BmpreadDecodes", spec := "bmpreadDecodes", unfollowed := true, recurses := true, named := ["math/bits.deBruijn32tab"], apart := false, laid := [("math/bits.deBruijn32tab", laid_math_bits_deBruijn32tab)] }
def BmpreadDecodesSaid : Prop := bmpreadDecodesRow.holds Tryd.pinned (OpenSpec.ofChange bmpreadDecodesSpec)

/-- ITS FALSE NEIGHBOUR: 'it returns false'. Refute it at one input. -/
def bmpreadDecodesWrong : ChangeSpec := { name := "bmpreadDecodes", fn := fun _ => fun
  | [d] => { results := [.lit (.bool false)], args := [d] }
  | _ => none }
def BmpreadDecodesWrongFalsely : Prop := bmpreadDecodesRow.holds Tryd.pinned (OpenSpec.ofChange bmpreadDecodesWrong)

/-- 'engraverlaw18.BmpreadMasks': WHATEVER THE INPUT: true; the input reads as it did. -/
def bmpreadMasksSpec : ChangeSpec := { name := "bmpreadMasks", fn := fun _ => fun
  | [d] => { results := [.lit (.bool true)], args := [d] }
  | _ => none }
def bmpreadMasksRow : OpenClaim := { program := "ytdooefnckdklmaadoor", sum := "758a3a367294565308184eb22d46a95fb9fed712d04650d646c148ac39e8c98a", func := "engraver/engraverlaw18.BmpreadMasks", spec := "bmpreadMasks", unfollowed := true, recurses := true, named := ["math/bits.deBruijn32tab"], apart := false, laid := [("math/bits.deBruijn32tab", laid_math_bits_deBruijn32tab)] }
def BmpreadMasksSaid : Prop := bmpreadMasksRow.holds Tryd.pinned (OpenSpec.ofChange bmpreadMasksSpec)

/-- ITS FALSE NEIGHBOUR: 'it returns false'. Refute it at one input. -/
def bmpreadMasksWrong : ChangeSpec := { name := "bmpreadMasks", fn := fun _ => fun
  | [d] => { results := [.lit (.bool false)], args := [d] }
  | _ => none }
def BmpreadMasksWrongFalsely : Prop := bmpreadMasksRow.holds Tryd.pinned (OpenSpec.ofChange bmpreadMasksWrong)

/-- 'engraverlaw18.BmpreadPlain': WHATEVER THE INPUT: true; the input reads as it did. -/
def bmpreadPlainSpec : ChangeSpec := { name := "bmpreadPlain", fn := fun _ => fun
  | [d] => { results := [.lit (.bool true)], args := [d] }
  | _ => none }
def bmpreadPlainRow : OpenClaim := { program := "ytdooefnckdklmaadoor", sum := "758a3a367294565308184eb22d46a95fb9fed712d04650d646c148ac39e8c98a", func := "engraver/engraverlaw18.BmpreadPlain", spec := "bmpreadPlain", unfollowed := true, recurses := true, named := ["math/bits.deBruijn32tab"], apart := false, laid := [("math/bits.deBruijn32tab", laid_math_bits_deBruijn32tab)] }
def BmpreadPlainSaid : Prop := bmpreadPlainRow.holds Tryd.pinned (OpenSpec.ofChange bmpreadPlainSpec)

/-- ITS FALSE NEIGHBOUR: 'it returns false'. Refute it at one input. -/
def bmpreadPlainWrong : ChangeSpec := { name := "bmpreadPlain", fn := fun _ => fun
  | [d] => { results := [.lit (.bool false)], args := [d] }
  | _ => none }
def BmpreadPlainWrongFalsely : Prop := bmpreadPlainRow.holds Tryd.pinned (OpenSpec.ofChange bmpreadPlainWrong)

/-- 'engraverlaw18.BmpreadRuns': WHATEVER THE INPUT: true; the input reads as it did. -/
def bmpreadRunsSpec : ChangeSpec := { name := "bmpreadRuns", fn := fun _ => fun
  | [d1, d2] => { results := [.lit (.bool true)], args := [d1, d2] }
  | _ => none }
def bmpreadRunsRow : OpenClaim := { program := "ytdooefnckdklmaadoor", sum := "758a3a367294565308184eb22d46a95fb9fed712d04650d646c148ac39e8c98a", func := "engraver/engraverlaw18.BmpreadRuns", spec := "bmpreadRuns", unfollowed := true, recurses := true, named := ["math/bits.deBruijn32tab"], apart := false, laid := [("math/bits.deBruijn32tab", laid_math_bits_deBruijn32tab)] }
def BmpreadRunsSaid : Prop := bmpreadRunsRow.holds Tryd.pinned (OpenSpec.ofChange bmpreadRunsSpec)

/-- ITS FALSE NEIGHBOUR: 'it returns false'. Refute it at one input. -/
def bmpreadRunsWrong : ChangeSpec := { name := "bmpreadRuns", fn := fun _ => fun
  | [d1, d2] => { results := [.lit (.bool false)], args := [d1, d2] }
  | _ => none }
def BmpreadRunsWrongFalsely : Prop := bmpreadRunsRow.holds Tryd.pinned (OpenSpec.ofChange bmpreadRunsWrong)

/-- 'engraverlaw18.BmpreadSmall': WHATEVER THE INPUT: true; the input reads as it did. -/
def bmpreadSmallSpec : ChangeSpec := { name := "bmpreadSmall", fn := fun _ => fun
  | [d1, d2] => { results := [.lit (.bool true)], args := [d1, d2] }
  | _ => none }
def bmpreadSmallRow : OpenClaim := { program := "ytdooefnckdklmaadoor", sum := "758a3a367294565308184eb22d46a95fb9fed712d04650d646c148ac39e8c98a", func := "engraver/engraverlaw18.BmpreadSmall", spec := "bmpreadSmall", unfollowed := true, recurses := true, named := ["math/bits.deBruijn32tab"], apart := false, laid := [("math/bits.deBruijn32tab", laid_math_bits_deBruijn32tab)] }
def BmpreadSmallSaid : Prop := bmpreadSmallRow.holds Tryd.pinned (OpenSpec.ofChange bmpreadSmallSpec)

/-- ITS FALSE NEIGHBOUR: 'it returns false'. Refute it at one input. -/
def bmpreadSmallWrong : ChangeSpec := { name := "bmpreadSmall", fn := fun _ => fun
  | [d1, d2] => { results := [.lit (.bool false)], args := [d1, d2] }
  | _ => none }
def BmpreadSmallWrongFalsely : Prop := bmpreadSmallRow.holds Tryd.pinned (OpenSpec.ofChange bmpreadSmallWrong)

/-- 'engraverlaw18.BmpreadMany': WHATEVER THE INPUT: true; the input reads as it did. -/
def bmpreadManySpec : ChangeSpec := { name := "bmpreadMany", fn := fun _ => fun
  | [d1, d2, d3] => { results := [.lit (.bool true)], args := [d1, d2, d3] }
  | _ => none }
def bmpreadManyRow : OpenClaim := { program := "ytdooefnckdklmaadoor", sum := "758a3a367294565308184eb22d46a95fb9fed712d04650d646c148ac39e8c98a", func := "engraver/engraverlaw18.BmpreadMany", spec := "bmpreadMany", unfollowed := true, recurses := true, named := ["math/bits.deBruijn32tab"], apart := false, laid := [("math/bits.deBruijn32tab", laid_math_bits_deBruijn32tab)] }
def BmpreadManySaid : Prop := bmpreadManyRow.holds Tryd.pinned (OpenSpec.ofChange bmpreadManySpec)

/-- ITS FALSE NEIGHBOUR: 'it returns false'. Refute it at one input. -/
def bmpreadManyWrong : ChangeSpec := { name := "bmpreadMany", fn := fun _ => fun
  | [d1, d2, d3] => { results := [.lit (.bool false)], args := [d1, d2, d3] }
  | _ => none }
def BmpreadManyWrongFalsely : Prop := bmpreadManyRow.holds Tryd.pinned (OpenSpec.ofChange bmpreadManyWrong)

/-- 'engraverlaw18.BmpreadTold': WHATEVER THE INPUT: true; the input reads as it did. -/
def bmpreadToldSpec : ChangeSpec := { name := "bmpreadTold", fn := fun _ => fun
  | [d1, d2, d3] => { results := [.lit (.bool true)], args := [d1, d2, d3] }
  | _ => none }
def bmpreadToldRow : OpenClaim := { program := "ytdooefnckdklmaadoor", sum := "758a3a367294565308184eb22d46a95fb9fed712d04650d646c148ac39e8c98a", func := "engraver/engraverlaw18.BmpreadTold", spec := "bmpreadTold", unfollowed := true, recurses := true, named := ["math/bits.deBruijn32tab"], apart := false, laid := [("math/bits.deBruijn32tab", laid_math_bits_deBruijn32tab)] }
def BmpreadToldSaid : Prop := bmpreadToldRow.holds Tryd.pinned (OpenSpec.ofChange bmpreadToldSpec)

/-- ITS FALSE NEIGHBOUR: 'it returns false'. Refute it at one input. -/
def bmpreadToldWrong : ChangeSpec := { name := "bmpreadTold", fn := fun _ => fun
  | [d1, d2, d3] => { results := [.lit (.bool false)], args := [d1, d2, d3] }
  | _ => none }
def BmpreadToldWrongFalsely : Prop := bmpreadToldRow.holds Tryd.pinned (OpenSpec.ofChange bmpreadToldWrong)

/- THE SECOND FORM. 'bulk': how many values and letters a reading holds, each counted each time it is reached (what is shared counts as often as it is met; a slice's spare places count too). A statement '..UptoSaid' is the law's where the arguments, and the package variables that the reading takes, are together of bulk at most 1048576: NARROWER than '..Said'. Prove '..Said' where nothing that the law and all that it calls make is longer than what came in: it says more and counts as full. Else prove '..UptoSaid'. A law counts once. -/
mutual
def uptoBulk {H : Type} : DataW H → Nat
  | .lit (.string bytes) => bytes.length + 1
  | .lit _ => 1
  | .nil => 1
  | .ptr d => uptoBulk d + 1
  | .slice elems spare => uptoBulkAll elems + uptoBulkAll spare + 1
  | .agg parts => uptoBulkAll parts + 1
  | .iface _ d => uptoBulk d + 1
  | .map entries => uptoBulkEntries entries + 1
  | .held _ => 1
def uptoBulkAll {H : Type} : List (DataW H) → Nat
  | [] => 0
  | d :: r => uptoBulk d + uptoBulkAll r
def uptoBulkEntries {H : Type} : List (Lit × DataW H) → Nat
  | [] => 0
  | x :: r => uptoBulkEntry x + uptoBulkEntries r
def uptoBulkEntry {H : Type} : Lit × DataW H → Nat
  | (.string bytes, d) => bytes.length + uptoBulk d + 1
  | (_, d) => uptoBulk d + 1
 end
def uptoSmall : (H : Type) → List (DataW H) → Bool := fun _ ds => decide (uptoBulkAll ds ≤ 1048576)
def OpenSpec.upto (s : _root_.Go.ChangeSpec) : _root_.Go.OpenSpec := { _root_.Go.OpenSpec.ofChange s with cond := some uptoSmall }

/-- 'engraverlaw18.BmpreadDecodes', WHERE WHAT IT READS IS OF BULK AT MOST 1048576: true; the input reads as it did. -/
def bmpreadDecodesUptoRow : OpenClaim := { program := "ytdooefnckdklmaadoor", sum := "758a3a367294565308184eb22d46a95fb9fed712d04650d646c148ac39e8c98a", func := "engraver/engraverlaw18.BmpreadDecodes", spec := "bmpreadDecodes", unfollowed := true, recurses := true, named := ["math/bits.deBruijn32tab"], apart := false, laid := [("math/bits.deBruijn32tab", laid_math_bits_deBruijn32tab)], narrowed := true }
def BmpreadDecodesUptoSaid : Prop := bmpreadDecodesUptoRow.holds Tryd.pinned (OpenSpec.upto bmpreadDecodesSpec)

/-- 'engraverlaw18.BmpreadMasks', WHERE WHAT IT READS IS OF BULK AT MOST 1048576: true; the input reads as it did. -/
def bmpreadMasksUptoRow : OpenClaim := { program := "ytdooefnckdklmaadoor", sum := "758a3a367294565308184eb22d46a95fb9fed712d04650d646c148ac39e8c98a", func := "engraver/engraverlaw18.BmpreadMasks", spec := "bmpreadMasks", unfollowed := true, recurses := true, named := ["math/bits.deBruijn32tab"], apart := false, laid := [("math/bits.deBruijn32tab", laid_math_bits_deBruijn32tab)], narrowed := true }
def BmpreadMasksUptoSaid : Prop := bmpreadMasksUptoRow.holds Tryd.pinned (OpenSpec.upto bmpreadMasksSpec)

/-- 'engraverlaw18.BmpreadPlain', WHERE WHAT IT READS IS OF BULK AT MOST 1048576: true; the input reads as it did. -/
def bmpreadPlainUptoRow : OpenClaim := { program := "ytdooefnckdklmaadoor", sum := "758a3a367294565308184eb22d46a95fb9fed712d04650d646c148ac39e8c98a", func := "engraver/engraverlaw18.BmpreadPlain", spec := "bmpreadPlain", unfollowed := true, recurses := true, named := ["math/bits.deBruijn32tab"], apart := false, laid := [("math/bits.deBruijn32tab", laid_math_bits_deBruijn32tab)], narrowed := true }
def BmpreadPlainUptoSaid : Prop := bmpreadPlainUptoRow.holds Tryd.pinned (OpenSpec.upto bmpreadPlainSpec)

/-- 'engraverlaw18.BmpreadRuns', WHERE WHAT IT READS IS OF BULK AT MOST 1048576: true; the input reads as it did. -/
def bmpreadRunsUptoRow : OpenClaim := { program := "ytdooefnckdklmaadoor", sum := "758a3a367294565308184eb22d46a95fb9fed712d04650d646c148ac39e8c98a", func := "engraver/engraverlaw18.BmpreadRuns", spec := "bmpreadRuns", unfollowed := true, recurses := true, named := ["math/bits.deBruijn32tab"], apart := false, laid := [("math/bits.deBruijn32tab", laid_math_bits_deBruijn32tab)], narrowed := true }
def BmpreadRunsUptoSaid : Prop := bmpreadRunsUptoRow.holds Tryd.pinned (OpenSpec.upto bmpreadRunsSpec)

/-- 'engraverlaw18.BmpreadSmall', WHERE WHAT IT READS IS OF BULK AT MOST 1048576: true; the input reads as it did. -/
def bmpreadSmallUptoRow : OpenClaim := { program := "ytdooefnckdklmaadoor", sum := "758a3a367294565308184eb22d46a95fb9fed712d04650d646c148ac39e8c98a", func := "engraver/engraverlaw18.BmpreadSmall", spec := "bmpreadSmall", unfollowed := true, recurses := true, named := ["math/bits.deBruijn32tab"], apart := false, laid := [("math/bits.deBruijn32tab", laid_math_bits_deBruijn32tab)], narrowed := true }
def BmpreadSmallUptoSaid : Prop := bmpreadSmallUptoRow.holds Tryd.pinned (OpenSpec.upto bmpreadSmallSpec)

/-- 'engraverlaw18.BmpreadMany', WHERE WHAT IT READS IS OF BULK AT MOST 1048576: true; the input reads as it did. -/
def bmpreadManyUptoRow : OpenClaim := { program := "ytdooefnckdklmaadoor", sum := "758a3a367294565308184eb22d46a95fb9fed712d04650d646c148ac39e8c98a", func := "engraver/engraverlaw18.BmpreadMany", spec := "bmpreadMany", unfollowed := true, recurses := true, named := ["math/bits.deBruijn32tab"], apart := false, laid := [("math/bits.deBruijn32tab", laid_math_bits_deBruijn32tab)], narrowed := true }
def BmpreadManyUptoSaid : Prop := bmpreadManyUptoRow.holds Tryd.pinned (OpenSpec.upto bmpreadManySpec)

/-- 'engraverlaw18.BmpreadTold', WHERE WHAT IT READS IS OF BULK AT MOST 1048576: true; the input reads as it did. -/
def bmpreadToldUptoRow : OpenClaim := { program := "ytdooefnckdklmaadoor", sum := "758a3a367294565308184eb22d46a95fb9fed712d04650d646c148ac39e8c98a", func := "engraver/engraverlaw18.BmpreadTold", spec := "bmpreadTold", unfollowed := true, recurses := true, named := ["math/bits.deBruijn32tab"], apart := false, laid := [("math/bits.deBruijn32tab", laid_math_bits_deBruijn32tab)], narrowed := true }
def BmpreadToldUptoSaid : Prop := bmpreadToldUptoRow.holds Tryd.pinned (OpenSpec.upto bmpreadToldSpec)

end Rows
end Go.Proofs.YtdooefnckdklmaaDoor
