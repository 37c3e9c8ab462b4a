/- A slice that came in, as a list of cells; each element's own reading. -/
import Derived.Test.YtioghgnngdcicaaMem
import Derived.ProofKit
import Derived.Deep.Slices
namespace Go.Proofs.Ytioghgnngdcicaa
open Go.ChangeShapes Go.WideShapes Go.ChangeAt Go.RowKit

section
variable {H : Type} {enc : TypeId × Value → H} {P : Program} {w : World}
theorem flat_get {size n : Nat} (E : Nat → List Value) (hE : ∀ i, i < n → (E i).length = size) (i j : Nat) (hi : i < n) (hj : j < size) : ((List.range n).flatMap E)[i * size + j]? = (E i)[j]? := by
  induction n generalizing i with
  | zero => omega
  | succ n ih =>
    rw [List.range_succ, List.flatMap_append]
    have hlen : ((List.range n).flatMap E).length = n * size := by
      clear ih hi
      induction n with
      | zero => simp
      | succ m ihm =>
        rw [List.range_succ, List.flatMap_append, List.length_append, ihm (fun i hi => hE i (by omega))]
        simp [hE m (by omega), Nat.add_mul]
    by_cases h : i < n
    · rw [List.getElem?_append_left, ih (fun i hi => hE i (by omega)) i h]
      rw [hlen]
      calc i * size + j < i * size + size := by omega
        _ = (i + 1) * size := by rw [Nat.add_mul]; omega
        _ ≤ n * size := Nat.mul_le_mul_right _ h
    · obtain rfl : i = n := by omega
      rw [List.getElem?_append_right (by rw [hlen]; omega), hlen]
      simp
theorem flat_len {size n : Nat} (E : Nat → List Value) (hE : ∀ i, i < n → (E i).length = size) : ((List.range n).flatMap E).length = n * size := by
  induction n with
  | zero => simp
  | succ m ihm =>
    rw [List.range_succ, List.flatMap_append, List.length_append, ihm (fun i hi => hE i (by omega))]
    simp [hE m (by omega), Nat.add_mul]

/-- A slice that came in: its elements' cells, and that each reads. -/
theorem open_sl {r : Reach} {b0 : Nat} {t e size : Nat} {v : Value} {d : DataW H} {p : List MemPlace} (ht : P.underlying t = some (.slice e)) (hsz : P.cellsOf e = size) (hpos : 0 < size)
    (hv : Value.okWide P w r b0 t v) (h : DataW.Trod enc P w 0 (fun _ => true) true t v d p) :
    ∃ (n : Nat) (E : Nat → List Value), Sl w v size n ((List.range n).flatMap E) ∧ (∀ i, i < n → (E i).length = size) ∧
      ∀ i, i < n → ∃ fuel y, DataW.trod enc P w 0 (fun _ => true) true fuel e (E i) = some y := by
  obtain ⟨a0, len, cap, rfl⟩ := okWide_slice ht hv
  obtain ⟨fuel, hf⟩ := h
  rcases Go.Deep.open_slice ht hf with ⟨hcs, _⟩ | ⟨a, len', cap', m, n, D, Pl, hcs, _, hl, hm, hmm, _, hx⟩
  · simp [Value.cells] at hcs
    obtain ⟨rfl, rfl, rfl⟩ := hcs
    exact ⟨0, fun _ => [], by simpa using Sl.nil w size, fun i hi => by omega, fun i hi => by omega⟩
  · simp [Value.cells] at hcs
    obtain ⟨rfl, rfl, rfl⟩ := hcs
    simp only [if_true] at hmm
    subst hmm
    have hx' : ∀ i, i < len → ∃ cs' : List Value, w.cells? 0 (a.add (i * P.cellsOf e)) (P.cellsOf e) = some cs' ∧ DataW.trod enc P w 0 (fun _ => true) true n e cs' = some (D i, Pl i) := fun i hi => hx i (by omega)
    obtain ⟨E, hE⟩ := Go.Deep.choose_lt (α := List Value) hx'
    have hlen : ∀ i, i < len → (E i).length = size := fun i hi => by
      obtain ⟨_, h2, _⟩ := World.cells?_some (hE i hi).1
      rw [← hsz]; exact h2
    have hcell : ∀ i j, i < len → j < size → w.cell? (a.add (i * size + j)) = (E i)[j]? := fun i j hi hj => by
      obtain ⟨_, h2, h3⟩ := World.cells?_some (hE i hi).1
      have hj' : j < P.cellsOf e := by rw [hsz]; exact hj
      have := h3 j hj'
      rw [Go.Deep.add_add, hsz] at this
      exact this
    refine ⟨len, E, ⟨flat_len E hlen, some a, _, rfl, hl, hm, fun hn => ?_⟩, hlen, fun i hi => ⟨n, _, (hE i hi).2⟩⟩
    have h00 := hcell 0 0 hn hpos
    have hs0 : (E 0)[0]? = some ((E 0)[0]'(by rw [hlen 0 hn]; exact hpos)) := List.getElem?_eq_getElem _
    rw [hs0] at h00
    have hspot : a.spot = none := by
      have e0 : a.add (0 * size + 0) = a := by simp [Addr.add]
      rw [e0] at h00
      unfold World.cell? at h00
      split at h00
      · split at h00
        · cases h00
        · rename_i hsp
          cases hs : a.spot with
          | none => rfl
          | some x => rw [hs] at hsp; simp at hsp
      · cases h00
    obtain ⟨b, off, sp⟩ := a
    simp only at hspot
    subst hspot
    have hb : b < w.heap.size := by
      have := World.block_lt_of_cell? w _ h00
      simpa [Addr.add] using this
    refine ⟨b, off, rfl, hb, fun j hj => ?_⟩
    have hi : j / size < len := Nat.div_lt_of_lt_mul (by rw [Nat.mul_comm]; exact hj)
    have hr : j % size < size := Nat.mod_lt _ hpos
    have hdm : j / size * size + j % size = j := by rw [Nat.mul_comm]; exact Nat.div_add_mod j size
    have h1 := hcell (j / size) (j % size) hi hr
    have h2 := flat_get (n := len) E hlen (j / size) (j % size) hi hr
    rw [hdm] at h1 h2
    rw [h2, ← h1, Addr.add_lit]
end
end Go.Proofs.Ytioghgnngdcicaa
