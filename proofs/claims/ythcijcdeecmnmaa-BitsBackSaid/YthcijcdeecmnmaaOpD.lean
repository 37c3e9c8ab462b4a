/- Deeds that came in. -/
import Derived.Test.YthcijcdeecmnmaaOpB
import Derived.Test.YthcijcdeecmnmaaLow
namespace Go.Proofs.Ythcijcdeecmnmaa
set_option linter.unusedVariables false
open Go.ChangeShapes Go.WideShapes Go.ChangeAt Go.RowKit

section
variable {H : Type} {enc : TypeId × Value → H} {W : World}
theorem cells_int : Try.prog.cellsOf 3 = 1 := by kernel_rfl
theorem int_of {fuel j : Nat} {c : Value} {xs : List (DataW H × List MemPlace)} (hj : j < xs.length) (h : DataW.trod enc Try.prog W 0 (fun _ => true) true fuel 3 [c] = xs[j]?) : ∃ a, c = .int .i64 a ∧ In64 a := by
  rw [List.getElem?_eq_getElem hj] at h
  obtain ⟨a, hc, _, hw⟩ := DataW.trod_int Try.underlying3 h
  simp at hc
  exact ⟨a, hc, wf64 hw⟩
theorem deed_of {fuel : Nat} {cs : List Value} {y : DataW H × List MemPlace} (hl : cs.length = 2) (h : DataW.trod enc Try.prog W 0 (fun _ => true) true fuel 40 cs = some y) : ∃ q : Int × Int, cs = [.int .i64 q.1, .int .i64 q.2] ∧ In64 q.1 ∧ In64 q.2 := by
  obtain ⟨xs, n, _, _, _, hx, hf⟩ := DataW.trod_struct Try.underlying40 h
  have hx2 : xs.length = 2 := hx
  match cs, hl with
  | [c0, c1], _ =>
    have f0 : DataW.trod enc Try.prog W 0 (fun _ => true) true n 3 (([c0, c1].drop 0).take (Try.prog.cellsOf 3)) = xs[0]? := hf 0 _ rfl
    have f1 : DataW.trod enc Try.prog W 0 (fun _ => true) true n 3 (([c0, c1].drop 1).take (Try.prog.cellsOf 3)) = xs[1]? := hf 1 _ rfl
    simp only [cells_int, List.drop_zero, List.drop_succ_cons, List.take_succ_cons, List.take_zero] at f0 f1
    obtain ⟨a0, rfl, h0⟩ := int_of (by omega) f0
    obtain ⟨a1, rfl, h1⟩ := int_of (by omega) f1
    exact ⟨(a0, a1), rfl, h0, h1⟩
theorem open_deeds {r : Reach} {b0 : Nat} {v : Value} {d : DataW H} {p : List MemPlace} (hv : Value.okWide Try.prog W r b0 36 v) (h : DataW.Trod enc Try.prog W 0 (fun _ => true) true 36 v d p) :
    ∃ A m cap d f, v = .slice A m cap ∧ m ≤ cap ∧ cap ≤ maxLen ∧ Deeds W A m d f ∧ (∀ i, In64 (d i)) ∧ ∀ i, In64 (f i) := by
  obtain ⟨n, E, hS, hE, hr⟩ := open_sl Try.underlying36 (size := 2) (by kernel_rfl) (by decide) hv h
  have hS2 := hS
  obtain ⟨_, A, cap, rfl, g1, g2, _⟩ := hS2
  have h1 : ∀ i, i < n → ∃ q : Int × Int, E i = [.int .i64 q.1, .int .i64 q.2] ∧ In64 q.1 ∧ In64 q.2 := fun i hi => by
    obtain ⟨fuel, y, hy⟩ := hr i hi
    exact deed_of (hE i hi) hy
  obtain ⟨c, hc⟩ := Go.Deep.choose_lt (α := Int × Int) h1
  have z64 : In64 0 := by unfold In64; omega
  refine ⟨A, n, cap, fun i => if i < n then (c i).1 else 0, fun i => if i < n then (c i).2 else 0, rfl, g1, g2, fun hn => ?_, fun i => ?_, fun i => ?_⟩
  · obtain ⟨b, off, rfl, hb, hcell⟩ := hS.cell hn
    refine ⟨b, off, rfl, hb, fun j hj => ⟨?_, ?_⟩⟩
    · have h2 := flat_get (n := n) E hE j 0 hj (by omega)
      rw [Nat.add_zero] at h2
      rw [hcell (j * 2) (by omega), h2, (hc j hj).1]
      simp [hj]
    · have h2 := flat_get (n := n) E hE j 1 hj (by omega)
      rw [Nat.add_assoc, hcell (j * 2 + 1) (by omega), h2, (hc j hj).1]
      simp [hj]
  · show In64 (if i < n then (c i).1 else 0)
    split
    · exact (hc i ‹_›).2.1
    · exact z64
  · show In64 (if i < n then (c i).2 else 0)
    split
    · exact (hc i ‹_›).2.2
    · exact z64
end
end Go.Proofs.Ythcijcdeecmnmaa
