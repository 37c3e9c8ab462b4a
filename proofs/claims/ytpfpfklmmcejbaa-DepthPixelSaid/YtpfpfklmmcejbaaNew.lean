/- raster.New, of the program and of the reference. -/
import Derived.Test.YtpfpfklmmcejbaaRas
import Derived.Laws.ResultCell
import Derived.Laws.CopyOwn
import Derived.Maps.AppendAt
namespace Go.Proofs.Ytpfpfklmmcejbaa
set_option linter.unusedVariables false
open Go.ChangeShapes Go.WideShapes Go.ChangeAt Go.RowKit

theorem info16 : (Try.prog.info? 22).map (fun i => (i.zero, i.size, i.bytes)) = some (some (.int .u16 0), 1, 2) := by kernel_rfl
theorem zeros_get (n j : Nat) (hj : j < n) : (madeCells #[.int .u16 0] n).toList[j]? = some (.int .u16 0) := by
  simp [madeCells, hj, Nat.mod_one]
def zeros (n : Nat) : List Value := (madeCells #[.int .u16 0] n).toList
theorem hp_new0 (w : World) (o : Obj) : (w.alloc o).heap[w.heap.size]? = some o := (MapKept.heap_alloc w o).1
theorem grown_set (w : World) (b i : Nat) (v : Value) : w.grownBy (w.setCell ⟨b, i, none⟩ v) (some b) :=
  ⟨rfl, rfl, rfl, by simp [World.setCell], fun k _ hk => Below.heap_setCell w _ v k (fun e => hk (by rw [e]))⟩
def newPost (a b : Int) (w : World) (e : Ending) (w' : World) : Prop :=
  (sizeE a b = 0 ∧ ∃ v, e = .returned (.tuple #[.agg #[.int .i64 a, .int .i64 b, v], .int .i64 0]) ∧ w'.ownsRow (w.heap.size + 1) 22 1 v (4 * a * b).toNat (zeros (4 * a * b).toNat)) ∨
  (sizeE a b ≠ 0 ∧ e = .returned (.tuple #[.agg #[.int .i64 0, .int .i64 0, .slice none 0 0], .int .i64 (sizeE a b)]))

end Go.Proofs.Ytpfpfklmmcejbaa
