/- Rows of rows of bytes that came in. -/
import Derived.Test.YtioghgnngdcicaaOpB
namespace Go.Proofs.Ytioghgnngdcicaa
set_option linter.unusedVariables false
open Go.ChangeShapes Go.WideShapes Go.ChangeAt Go.RowKit

section
variable {H : Type} {enc : TypeId × Value → H} {W : World}
theorem bytes_of {fuel : Nat} {v : Value} {y : DataW H × List MemPlace} (hf : DataW.trod enc Try.prog W 0 (fun _ => true) true fuel 22 [v] = some y) :
    ∃ q : (Option Addr × Nat × Nat) × (Nat → Nat), v = .slice q.1.1 q.1.2.1 q.1.2.2 ∧ q.1.2.1 ≤ q.1.2.2 ∧ q.1.2.2 ≤ maxLen ∧ Byt W q.1.1 q.1.2.1 q.2 ∧ ∀ i, q.2 i < 256 := by
  obtain ⟨n, E, hS, hE, hr, hnone⟩ := open_sl1 Try.underlying22 (size := 1) (by kernel_rfl) (by decide) hf
  have hS2 := hS
  obtain ⟨_, A, cap, rfl, g1, g2, _⟩ := hS2
  have h1 : ∀ i, i < n → ∃ m : Nat, E i = [.int .u8 (m : Nat)] ∧ m < 256 := fun i hi => by
    obtain ⟨fuel, y, hy⟩ := hr i hi
    obtain ⟨k, hk, _, hw⟩ := DataW.trod_int Try.underlying5 hy
    obtain ⟨q1, q2⟩ := wf8' hw
    obtain ⟨m, rfl⟩ := Int.eq_ofNat_of_zero_le q1
    exact ⟨m, hk, by omega⟩
  obtain ⟨c, hc⟩ := Go.Deep.choose_lt (α := Nat) h1
  refine ⟨((A, n, cap), fun i => if i < n then c i else 0), rfl, g1, g2, fun hn => ?_, fun i => ?_⟩
  · obtain ⟨b, off, rfl, hb, hcell⟩ := hS.cell hn
    refine ⟨b, off, rfl, hb, fun j hj => ?_⟩
    have hj' : j < n := hj
    rw [hcell j (by omega)]
    have h2 := flat_get (n := n) E hE j 0 hj' (by omega)
    rw [Nat.mul_one, Nat.add_zero] at h2
    rw [h2, (hc j hj').1]
    simp [hj']
  · show (if i < n then c i else 0) < 256
    split
    · exact (hc i ‹_›).2
    · omega
/-- Rows of bytes. -/
def RowsB (w : World) (A : Option Addr) (m : Nat) (f : Nat → (Option Addr × Nat × Nat) × (Nat → Nat)) : Prop :=
  (0 < m → ∃ bk off, A = some ⟨bk, off, none⟩ ∧ bk < w.heap.size ∧ ∀ j, j < m → w.cell? ⟨bk, off + j, none⟩ = some (.slice (f j).1.1 (f j).1.2.1 (f j).1.2.2)) ∧
  ∀ j, j < m → (f j).1.2.1 ≤ (f j).1.2.2 ∧ (f j).1.2.2 ≤ maxLen ∧ Byt w (f j).1.1 (f j).1.2.1 (f j).2 ∧ ∀ i, (f j).2 i < 256
theorem RowsB.below {w w' : World} {A : Option Addr} {m : Nat} {f : Nat → (Option Addr × Nat × Nat) × (Nat → Nat)} (h : RowsB w A m f) (hb : Below w.heap.size w w') : RowsB w' A m f := by
  obtain ⟨h1, h2⟩ := h
  refine ⟨fun hn => ?_, fun j hj => ?_⟩
  · obtain ⟨bk, off, rfl, hlt, hc⟩ := h1 hn
    exact ⟨bk, off, rfl, Nat.lt_of_lt_of_le hlt hb.size, fun j hj => (hb.cell (p := ⟨bk, off + j, none⟩) hlt).trans (hc j hj)⟩
  · obtain ⟨g1, g2, g3, g4⟩ := h2 j hj
    exact ⟨g1, g2, g3.below hb, g4⟩
theorem open_rows {r : Reach} {b0 : Nat} {v : Value} {d : DataW H} {p : List MemPlace} (hv : Value.okWide Try.prog W r b0 49 v) (h : DataW.Trod enc Try.prog W 0 (fun _ => true) true 49 v d p) :
    ∃ A m cap f, v = .slice A m cap ∧ m ≤ cap ∧ cap ≤ maxLen ∧ RowsB W A m f := by
  obtain ⟨a0, len, cap0, rfl⟩ := okWide_slice Try.underlying49 hv
  obtain ⟨fuel, hf⟩ := h
  obtain ⟨n, E, hS, hE, hr, hnone⟩ := open_sl1 Try.underlying49 (size := 1) (by kernel_rfl) (by decide) (v := .slice a0 len cap0) hf
  have hS2 := hS
  obtain ⟨_, A, cap, he, g1, g2, _⟩ := hS2
  cases he
  have h1 : ∀ i, i < len → ∃ q : (Option Addr × Nat × Nat) × (Nat → Nat), E i = [.slice q.1.1 q.1.2.1 q.1.2.2] ∧ q.1.2.1 ≤ q.1.2.2 ∧ q.1.2.2 ≤ maxLen ∧ Byt W q.1.1 q.1.2.1 q.2 ∧ ∀ i, q.2 i < 256 := fun i hi => by
    obtain ⟨fuel, y, hy⟩ := hr i hi
    match hEi : E i, hE i hi with
    | [c], _ =>
      rw [hEi] at hy
      obtain ⟨q, rfl, h2⟩ := bytes_of hy
      exact ⟨q, rfl, h2⟩
  obtain ⟨c, hc⟩ := Go.Deep.choose_lt (α := (Option Addr × Nat × Nat) × (Nat → Nat)) h1
  refine ⟨a0, len, cap0, c, rfl, g1, g2, fun hn => ?_, fun j hj => (hc j hj).2⟩
  obtain ⟨b, off, rfl, hb, hcell⟩ := hS.cell hn
  refine ⟨b, off, rfl, hb, fun j hj => ?_⟩
  rw [hcell j (by omega)]
  have h2 := flat_get (n := len) E hE j 0 hj (by omega)
  rw [Nat.mul_one, Nat.add_zero] at h2
  rw [h2, (hc j hj).1]
  rfl
end
end Go.Proofs.Ytioghgnngdcicaa
