/- BitsHigh: the walk. -/
import Derived.Test.YtioghgnngdcicaaAw1
import Derived.StillTailTactics
namespace Go.Proofs.Ytioghgnngdcicaa
set_option linter.unusedVariables false
open Go.ChangeShapes Go.WideShapes Go.ChangeAt Go.RowKit
/-- Integers lie in w. -/
def Nums (w : World) (A : Option Addr) (m : Nat) (f : Nat → Int) : Prop :=
  0 < m → ∃ bk off, A = some ⟨bk, off, none⟩ ∧ bk < w.heap.size ∧ ∀ j, j < m → w.cell? ⟨bk, off + j, none⟩ = some (.int .i64 (f j))
theorem Nums.below {w w' : World} {A : Option Addr} {n : Nat} {c : Nat → Int} (h : Nums w A n c) (hb : Below w.heap.size w w') : Nums w' A n c := fun hn => by
  obtain ⟨bk, off, rfl, hlt, hc⟩ := h hn
  exact ⟨bk, off, rfl, Nat.lt_of_lt_of_le hlt hb.size, fun j hj => (hb.cell (p := ⟨bk, off + j, none⟩) hlt).trans (hc j hj)⟩

def jOf (q : Value) (W : World) : Nat := match q with
  | .pointer (some a) => match W.cell? a with
    | some v => (intOf v).toNat
    | none => 0
  | _ => 0
theorem jOf_eq {Q j : Nat} {t : TypeId} {W : World} (h : W.heap[Q]? = some (.cells #[.int .i64 (j : Nat)] t (0, 0))) : jOf (.pointer (some ⟨Q, 0, none⟩)) W = j := by
  have := hp_cell (j := 0) h rfl
  simp [jOf, this, intOf]
end Go.Proofs.Ytioghgnngdcicaa
