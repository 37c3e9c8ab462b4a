/- engraverlaw1.awake. -/
import Derived.Test.YtioghgnngdcicaaRefB
import Derived.Test.YtioghgnngdcicaaClone
namespace Go.Proofs.Ytioghgnngdcicaa
set_option linter.unusedVariables false
open Go.ChangeShapes Go.WideShapes Go.ChangeAt Go.RowKit

def b35 (_ : Nat) : Nat := 53
theorem hp_oth {W : World} {B g i : Nat} {v : Value} {o : Obj} (h : W.heap[B]? = some o) (hne : ¬B = g) : (W.setCell ⟨g, i, none⟩ v).heap[B]? = some o := (Below.heap_setCell W _ v B hne).trans h
theorem hp_newk {w : World} {o : Obj} {k : Nat} (hk : w.heap.size = k) : (w.alloc o).heap[k]? = some o := hk ▸ hp_new0 w o
theorem Rd.set {T : TypeId} {g : Nat} {A : Option Addr} {n cap : Nat} {b : Nat → Nat} {p : Nat} {vo : Value} {fr : Int} {w : World} (h : Rd T g A n cap b p vo fr w) {x : Nat} (hx : x ∉ [g]) (ho : 0 < n → ∀ a, A = some a → a.block ≠ x) (i : Nat) (v : Value) : Rd T g A n cap b p vo fr (w.setCell ⟨x, i, none⟩ v) :=
  h.chg ((Chg.refl [x] w).set (.inl (by simp)) i v) (by simp at hx ⊢; omega) (fun hn a ha => by simp; exact ho hn a ha)
theorem b35_lt (i : Nat) : b35 i < 256 := by unfold b35; omega
theorem byt_one (w : World) : Byt (w.alloc (.cells #[.int .u8 53] 5)) (some ⟨w.heap.size, 0, none⟩) 1 b35 := fun _ => ⟨w.heap.size, 0, rfl, by simp, fun j hj => by
  obtain rfl : j = 0 := by omega
  exact hp_cell (hp_new0 _ _) rfl⟩
end Go.Proofs.Ytioghgnngdcicaa
