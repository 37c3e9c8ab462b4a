/- raster.Set: a pixel is written. -/
import Derived.Test.YthgafdbdmemkhaaGet
import Derived.Laws.CopyRow
namespace Go.Proofs.Ythgafdbdmemkhaa
set_option linter.unusedVariables false
open Go.ChangeShapes Go.WideShapes Go.ChangeAt Go.RowKit

theorem grown_of_below {w w' : World} (h : Below w.heap.size w w') (row : Option Nat) : w.grownBy w' row := ⟨h.os, h.tape, h.output, h.size, fun i hi _ => h.block i hi⟩
theorem grown_setRow (w : World) (g : Nat) (cs : Array Value) : w.grownBy (w.setRow g cs) (some g) := ⟨rfl, rfl, rfl, by simp [World.setRow], fun i _ hne => setRow_other w g i cs (fun e => hne (by rw [e]))⟩
theorem grown_drewS (w : World) (row : Option Nat) : w.grownBy w.drew row := ⟨rfl, rfl, rfl, Nat.le_refl _, fun _ _ _ => rfl⟩
def pix4 (p0 p1 p2 p3 : Nat) : List Value := [.int .u16 (p0 : Nat), .int .u16 (p1 : Nat), .int .u16 (p2 : Nat), .int .u16 (p3 : Nat)]
def setCur (cur : Array Value) (k : Nat) (cs : List Value) : Array Value := (cur.toList.take (4 * k) ++ cs ++ cur.toList.drop (4 * k + cs.length)).toArray
theorem setCur_size (cur : Array Value) (k : Nat) (cs : List Value) (h : 4 * k + cs.length ≤ cur.size) : (setCur cur k cs).size = cur.size := by
  simp [setCur]; omega
theorem setCur_in (cur : Array Value) (k : Nat) (cs : List Value) (h : 4 * k + cs.length ≤ cur.size) (j : Nat) (hj : j < cs.length) : (setCur cur k cs)[4 * k + j]? = cs[j]? := by
  have e1 : (cur.toList.take (4 * k)).length = 4 * k := by rw [List.length_take]; simp; omega
  unfold setCur
  rw [List.getElem?_toArray, List.append_assoc, List.getElem?_append_right (by omega), e1, List.getElem?_append_left (by omega)]
  congr 1
  omega
theorem setCur_out (cur : Array Value) (k : Nat) (cs : List Value) (h : 4 * k + cs.length ≤ cur.size) (j : Nat) (hj : j < 4 * k ∨ 4 * k + cs.length ≤ j) : (setCur cur k cs)[j]? = cur[j]? := by
  have e1 : (cur.toList.take (4 * k)).length = 4 * k := by rw [List.length_take]; simp; omega
  unfold setCur
  rw [List.getElem?_toArray, List.append_assoc]
  rcases hj with hj | hj
  · rw [List.getElem?_append_left (by omega), List.getElem?_take, if_pos (by omega)]
    simp
  · rw [List.getElem?_append_right (by omega), e1, List.getElem?_append_right (by omega), List.getElem?_drop]
    simp
    congr 1
    omega
theorem size38 : (Try.prog.info? 28).map (·.size) = some 1 := by kernel_rfl

end Go.Proofs.Ythgafdbdmemkhaa
