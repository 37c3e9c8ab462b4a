/- engraverref8.At and Set; Set of both, over rows of one's own. -/
import Derived.Test.YthgafdbdmemkhaaCopy
import Derived.Test.YthgafdbdmemkhaaEq
namespace Go.Proofs.Ythgafdbdmemkhaa
set_option linter.unusedVariables false
open Go.ChangeShapes Go.WideShapes Go.ChangeAt Go.RowKit

theorem in_cases (a b : Int) (n : Nat) (x y : Int) :
    (mayB a b n = false) ∨ (mayB a b n = true ∧ x < 0) ∨ (mayB a b n = true ∧ 0 ≤ x ∧ y < 0) ∨ (mayB a b n = true ∧ 0 ≤ x ∧ 0 ≤ y ∧ a ≤ x) ∨ (mayB a b n = true ∧ 0 ≤ x ∧ 0 ≤ y ∧ x < a ∧ b ≤ y) ∨ (mayB a b n = true ∧ 0 ≤ x ∧ 0 ≤ y ∧ x < a ∧ y < b) := by
  cases mayB a b n
  · exact .inl rfl
  · simp
    omega
/-- The three boxes of At. -/
theorem three_boxes (w : World) (cs c1 c2 : Array Value) (t t1 t2 : TypeId) : let W := ((w.alloc (.cells cs t)).alloc (.cells c1 t1)).alloc (.cells c2 t2)
    W.heap.size = w.heap.size + 3 ∧ W.heap[w.heap.size]? = some (.cells cs t (0, 0)) ∧ W.heap[w.heap.size + 1]? = some (.cells c1 t1 (0, 0)) ∧ W.heap[w.heap.size + 1 + 1]? = some (.cells c2 t2 (0, 0)) ∧ Below w.heap.size w W := by
  intro W
  have h1 := hp_new0 (w.alloc (.cells cs t)) (.cells c1 t1)
  have h2 := hp_new0 ((w.alloc (.cells cs t)).alloc (.cells c1 t1)) (.cells c2 t2)
  simp only [World.size_alloc] at h1 h2
  exact ⟨by simp [W, World.size_alloc], hp_alloc _ (hp_alloc _ (hp_new0 _ _)), hp_alloc _ h1, h2, (((Below.refl _ w).alloc (Nat.le_refl _) _).alloc (by simp) _).alloc (by simp; omega) _⟩

end Go.Proofs.Ythgafdbdmemkhaa
