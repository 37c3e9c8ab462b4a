/- What was written, from either end. -/
import Derived.Test.YtioghgnngdcicaaPutH
namespace Go.Proofs.Ytioghgnngdcicaa
set_option linter.unusedVariables false
open Go.ChangeShapes Go.WideShapes Go.ChangeAt Go.RowKit

theorem byt_of_row {w : World} {base : Nat} {v : Value} {o : List Nat} (h : w.ownsRow base 5 1 v o.length (cellsB o)) : ∃ A cap, v = .slice A o.length cap ∧ o.length ≤ cap ∧ cap ≤ maxLen ∧ (A = none → cap = 0) ∧ Byt w A o.length (fun i => (o[i]?).getD 0) := by
  obtain ⟨hl, hf⟩ := h
  rcases hf with ⟨rfl, h0⟩ | ⟨g, cap, cur, rfl, hB, hg, hnc, hcm, hcs, ht⟩
  · have h1 : o.length = 0 := h0
    exact ⟨none, 0, by rw [h1], by omega, by simp [maxLen], fun _ => rfl, fun h => absurd h (by omega)⟩
  · refine ⟨some ⟨g, 0, none⟩, cap, rfl, hnc, hcm, (fun h => by cases h), fun hn => ⟨g, 0, rfl, lt_heap hg, fun j hj => ?_⟩⟩
    rw [Nat.zero_add]
    refine hp_cell hg ?_
    have h1 := congrArg (fun l => l[j]?) ht
    simp only [List.getElem?_take, show j < o.length * 1 by omega, if_true] at h1
    rw [← Array.getElem?_toList, h1]
    simp [cellsB, hj]
set_option maxRecDepth 100000 in
set_option maxHeartbeats 400000 in
theorem outL (g : Nat) (iv : Value) (at_ : Int) (o : List Nat) (fr : Nat) (ob : Option Nat) (ho : o.length ≤ 1000000) (w : World) (h : Wr 76 g iv at_ o fr ob w) :
    Calls Try.prog 41 #[.pointer (some ⟨g, 0, none⟩)] w fun e w' => ∃ A' cap', e = .returned (.slice A' o.length cap') ∧ NewB w.heap.size w' o.length A' cap' (fun i => (o[i]?).getD 0) ∧ Below w.heap.size w w' := by
  obtain ⟨⟨vo, hb, hown, hob⟩, h8, hfu, hlt⟩ := h
  obtain ⟨A, cap, rfl, h1, h2, h3, hB⟩ := byt_of_row hown
  have c1 := hp_cell (j := 1) hb rfl
  have HB := Lib.hid hB
  clear hb hown hob hfu hlt hB
  go_enter Try.func41, Try.ntmps41
  go_wp2_with fail
  refine (clone_prog A o.length cap _ h1 h2 h3 ho _ HB.out).mono ?_
  rintro e w1 ⟨A', cap', rfl, hN, hB⟩
  have HN := Lib.hid hN
  have HB1 := Lib.hid hB
  clear hN hB
  go_wp2
  go_ret
  exact ⟨A', cap', rfl, HN.out, HB1.out⟩
end Go.Proofs.Ytioghgnngdcicaa
