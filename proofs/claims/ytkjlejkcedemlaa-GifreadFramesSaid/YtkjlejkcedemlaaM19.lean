/- GifreadRows: the rows' order, what was seen. -/
import Derived.Test.YtkjlejkcedemlaaM18

namespace Go.Proofs.Ytkjlejkcedemlaa
set_option maxRecDepth 100000
set_option linter.unusedVariables false
open Go.ChangeShapes Go.WideShapes Go.ChangeAt Go.RowKit

theorem stepG_mod (h f s : Nat) (hs : f < s) : ∀ v ∈ stepG h f s, v % s = f := by
  intro v hv
  unfold stepG at hv
  obtain ⟨i, _, rfl⟩ := List.mem_map.1 hv
  rw [Nat.add_mul_mod_self_left]
  exact Nat.mod_eq_of_lt hs
theorem stepG_nodup (h f s : Nat) (hs : 0 < s) : (stepG h f s).Nodup := by
  unfold stepG
  refine List.pairwise_map.2 (List.nodup_range.imp fun {a b} hab e => hab ?_)
  exact Nat.eq_of_mul_eq_mul_left hs (Nat.add_left_cancel e)
theorem rowsG_nodup (h : Nat) : (rowsG h).Nodup := by
  have m1 := stepG_mod h 0 8 (by omega)
  have m2 := stepG_mod h 4 8 (by omega)
  have m3 := stepG_mod h 2 4 (by omega)
  have m4 := stepG_mod h 1 2 (by omega)
  unfold rowsG
  refine List.nodup_append.2 ⟨List.nodup_append.2 ⟨List.nodup_append.2 ⟨stepG_nodup _ _ _ (by omega), stepG_nodup _ _ _ (by omega), fun a ha b hb e => ?_⟩, stepG_nodup _ _ _ (by omega), fun a ha b hb e => ?_⟩, stepG_nodup _ _ _ (by omega), fun a ha b hb e => ?_⟩
  · have := m1 a ha
    have := m2 b hb
    omega
  · have h3 := m3 b hb
    rcases List.mem_append.1 ha with ha | ha
    · have := m1 a ha
      omega
    · have := m2 a ha
      omega
  · have h4 := m4 b hb
    rcases List.mem_append.1 ha with ha | ha
    · rcases List.mem_append.1 ha with ha | ha
      · have := m1 a ha
        omega
      · have := m2 a ha
        omega
    · have := m3 a ha
      omega
/-- Which were seen. -/
def seenL (l : List Nat) (n : Nat) : List Value := (List.range n).map fun v => .bool (decide (v ∈ l))
theorem seenL_len (l : List Nat) (n : Nat) : (seenL l n).length = n := by simp [seenL]
theorem seenL_get {l : List Nat} {n v : Nat} (h : v < n) : (seenL l n)[v]? = some (.bool (decide (v ∈ l))) := by simp [seenL, h]
theorem seenL_set (l : List Nat) (n v : Nat) : (seenL l n).set v (.bool true) = seenL (l ++ [v]) n := by
  apply List.ext_getElem?
  intro t
  by_cases ht : t < n
  · rw [List.getElem?_set, seenL_get ht, seenL_get ht]
    by_cases e : v = t
    · subst e
      simp [seenL, ht]
    · rw [if_neg e]
      have : (t ∈ l ++ [v]) ↔ t ∈ l := by simp; intro h; exact absurd h.symm e
      simp [this]
  · rw [List.getElem?_eq_none (by rw [List.length_set, seenL_len]; omega), List.getElem?_eq_none (by rw [seenL_len]; omega)]
theorem row_set {w : World} {base : Nat} {e : TypeId} {n cap g j : Nat} {x : Value} {xs : List Value} (h : w.ownsRow base e 1 (.slice (some ⟨g, 0, none⟩) n cap) n xs) : (w.setCell ⟨g, j, none⟩ x).ownsRow base e 1 (.slice (some ⟨g, 0, none⟩) n cap) n (xs.set j x) := by
  obtain ⟨hl, hf⟩ := h
  refine ⟨by simp [hl], ?_⟩
  rcases hf with ⟨h0, _⟩ | ⟨g', cap', cur, he, hB, hg, hnc, hcm, hcs, ht⟩
  · cases h0
  · cases he
    refine .inr ⟨g, cap, _, rfl, hB, heap_set hg, hnc, hcm, by simp [hcs], ?_⟩
    rw [Array.toList_setIfInBounds, List.take_set, ht]
theorem row_get {w : World} {base : Nat} {e : TypeId} {n cap g j : Nat} {x : Value} {xs : List Value} (h : w.ownsRow base e 1 (.slice (some ⟨g, 0, none⟩) n cap) n xs) (hj : xs[j]? = some x) : w.cell? ⟨g, j, none⟩ = some x := by
  obtain ⟨hl, hf⟩ := h
  have hjl := (List.getElem?_eq_some_iff.1 hj).1
  rcases hf with ⟨h0, _⟩ | ⟨g', cap', cur, he, hB, hg, hnc, hcm, hcs, ht⟩
  · cases h0
  · cases he
    refine hp_cell hg ?_
    have h1 := congrArg (fun l => l[j]?) ht
    simp only [List.getElem?_take, show j < n * 1 by omega, if_true] at h1
    rw [← Array.getElem?_toList, h1, hj]
set_option maxHeartbeats 400000 in
theorem rows_none (h : Int) (hh : In64 h) (hb : h < 1 ∨ 256 < h) (w : World) : Calls Try.prog 12 #[.int .i64 h] w fun e w' => e = .returned (.slice none 0 0) ∧ w' = w := by
  unfold In64 at hh
  by_cases h1 : h < 1
  · have d1 : decide (h < 1) = true := decide_eq_true h1
    go_enter Try.func12, Try.ntmps12
    go_wp2
    go_ret
    exact ⟨rfl, rfl⟩
  · have d1 : decide (h < 1) = false := decide_eq_false h1
    have d2 : decide (256 < h) = true := decide_eq_true (by omega)
    go_enter Try.func12, Try.ntmps12
    go_wp2
    go_ret
    exact ⟨rfl, rfl⟩
set_option maxHeartbeats 400000 in
theorem rowsr_none (h : Int) (hh : In64 h) (hb : h < 1 ∨ 256 < h) (w : World) : Calls Try.prog 13 #[.int .i64 h] w fun e w' => e = .returned (.slice none 0 0) ∧ w' = w := by
  unfold In64 at hh
  by_cases h1 : h < 1
  · have d1 : decide (h < 1) = true := decide_eq_true h1
    go_enter Try.func13, Try.ntmps13
    go_wp2
    go_ret
    exact ⟨rfl, rfl⟩
  · have d1 : decide (h < 1) = false := decide_eq_false h1
    have d2 : decide (256 < h) = true := decide_eq_true (by omega)
    go_enter Try.func13, Try.ntmps13
    go_wp2
    go_ret
    exact ⟨rfl, rfl⟩
theorem infoB : (Try.prog.info? 4).map (fun i => (i.zero, i.size, i.bytes)) = some (some (.bool false), 1, 1) := by kernel_rfl
end Go.Proofs.Ytkjlejkcedemlaa
