/- Words for memory: a slice that reads as a list of cells; what stays. -/
import Derived.WalkKit
import Derived.Below
import Derived.Laws.OwnMore
import Derived.Deep.Draws
import Derived.Laws.Rows
namespace Go.Proofs.Ytioghgnngdcicaa
open Go.RowKit

theorem below_drewN {B : Nat} {a w : World} (h : Below B a w) (n : Nat) : Below B a (w.drewN n) := ⟨h.os, h.tape, h.output, h.size, h.block⟩
theorem below_setRow {B : Nat} {a w : World} (h : Below B a w) {g : Nat} (hg : B ≤ g) (xs : Array Value) : Below B a (w.setRow g xs) :=
  h.trans ⟨rfl, rfl, rfl, by simp [World.setRow], fun k hk => setRow_other w g k xs (by omega)⟩
theorem lt_of_cell {w : World} {p : Addr} {u : Value} (h : w.cell? p = some u) : p.block < w.heap.size := World.block_lt_of_cell? w p h

/-- The slice value v reads as the cells xs, 'size' cells an element. -/
structure Sl (w : World) (v : Value) (size n : Nat) (xs : List Value) : Prop where
  len : xs.length = n * size
  form : ∃ A cap, v = .slice A n cap ∧ n ≤ cap ∧ cap ≤ maxLen ∧ (0 < n → ∃ b off, A = some ⟨b, off, none⟩ ∧ b < w.heap.size ∧ ∀ j (_ : j < n * size), w.cell? ⟨b, off + j, none⟩ = xs[j]?)

theorem Sl.below {w w' : World} {v : Value} {size n : Nat} {xs : List Value} (h : Sl w v size n xs) (hb : Below w.heap.size w w') : Sl w' v size n xs := by
  obtain ⟨hl, A, cap, rfl, h1, h2, h3⟩ := h
  refine ⟨hl, A, cap, rfl, h1, h2, fun hn => ?_⟩
  obtain ⟨b, off, rfl, hlt, hc⟩ := h3 hn
  exact ⟨b, off, rfl, Nat.lt_of_lt_of_le hlt hb.size, fun j hj => (hb.cell (p := ⟨b, off + j, none⟩) hlt).trans (hc j hj)⟩
theorem Sl.nil (w : World) (size : Nat) : Sl w (.slice none 0 0) size 0 [] := ⟨by simp, none, 0, rfl, Nat.le_refl _, by simp [maxLen], fun h => absurd h (by omega)⟩
theorem Sl.of_own {w : World} {base : Nat} {e : TypeId} {size n : Nat} {v : Value} {xs : List Value} (h : w.ownsRow base e size v n xs) : Sl w v size n xs := by
  refine ⟨h.1, ?_⟩
  rcases h.2 with ⟨rfl, rfl⟩ | ⟨g, cap, cur, rfl, hb, hg, hnc, hcm, hcs, ht⟩
  · exact ⟨none, 0, rfl, Nat.le_refl _, by simp [maxLen], fun h => absurd h (by omega)⟩
  · refine ⟨_, cap, rfl, hnc, hcm, fun _ => ⟨g, 0, rfl, (Array.getElem?_eq_some_iff.1 hg).1, fun j hj => ?_⟩⟩
    rw [cell_of_row w g _ cur e (0, 0) hg, ← ht]
    simp [List.getElem?_take, hj]
theorem Sl.cell {w : World} {A : Option Addr} {cap size n : Nat} {xs : List Value} (h : Sl w (.slice A n cap) size n xs) (hn : 0 < n) :
    ∃ b off, A = some ⟨b, off, none⟩ ∧ b < w.heap.size ∧ ∀ j (_ : j < n * size), w.cell? ⟨b, off + j, none⟩ = xs[j]? := by
  obtain ⟨_, A', cap', he, _, _, h3⟩ := h
  injection he with e1 e2 e3
  subst e1
  exact h3 hn
end Go.Proofs.Ytioghgnngdcicaa
