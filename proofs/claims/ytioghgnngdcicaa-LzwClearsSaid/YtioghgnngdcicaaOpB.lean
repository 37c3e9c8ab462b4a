/- Rows of bytes and of integers that came in. -/
import Derived.Test.YtioghgnngdcicaaOpen
import Derived.Test.YtioghgnngdcicaaHigh
import Derived.Lib.SmallJoins
namespace Go.Proofs.Ytioghgnngdcicaa
set_option linter.unusedVariables false
open Go.ChangeShapes Go.WideShapes Go.ChangeAt Go.RowKit

section
variable {H : Type} {enc : TypeId × Value → H} {P : Program} {w : World}
/-- A slice in one cell: its elements' cells, and that each reads. -/
theorem open_sl1 {t e size fuel : Nat} {v : Value} {y : DataW H × List MemPlace} (ht : P.underlying t = some (.slice e)) (hsz : P.cellsOf e = size) (hpos : 0 < size)
    (hf : DataW.trod enc P w 0 (fun _ => true) true fuel t [v] = some y) :
    ∃ (n : Nat) (E : Nat → List Value), Sl w v size n ((List.range n).flatMap E) ∧ (∀ i, i < n → (E i).length = size) ∧
      (∀ i, i < n → ∃ fuel y, DataW.trod enc P w 0 (fun _ => true) true fuel e (E i) = some y) ∧ ∀ n' cap, v = .slice none n' cap → cap = 0 := by
  rcases Go.Deep.open_slice ht hf with ⟨hcs, _⟩ | ⟨a, len, cap, m, n, D, Pl, hcs, _, hl, hm, hmm, _, hx⟩
  · simp at hcs
    subst hcs
    exact ⟨0, fun _ => [], by simpa using Sl.nil w size, fun i hi => by omega, fun i hi => by omega, fun n' cap h => by injection h with _ _ h; exact h.symm⟩
  · simp at hcs
    subst hcs
    simp only [if_true] at hmm
    subst hmm
    have hx' : ∀ i, i < len → ∃ cs' : List Value, w.cells? 0 (a.add (i * P.cellsOf e)) (P.cellsOf e) = some cs' ∧ DataW.trod enc P w 0 (fun _ => true) true n e cs' = some (D i, Pl i) := fun i hi => hx i (by omega)
    obtain ⟨E, hE⟩ := Go.Deep.choose_lt (α := List Value) hx'
    have hlen : ∀ i, i < len → (E i).length = size := fun i hi => by
      obtain ⟨_, h2, _⟩ := World.cells?_some (hE i hi).1
      rw [← hsz]; exact h2
    have hcell : ∀ i j, i < len → j < size → w.cell? (a.add (i * size + j)) = (E i)[j]? := fun i j hi hj => by
      obtain ⟨_, h2, h3⟩ := World.cells?_some (hE i hi).1
      have hj' : j < P.cellsOf e := by rw [hsz]; exact hj
      have := h3 j hj'
      rw [Go.Deep.add_add, hsz] at this
      exact this
    refine ⟨len, E, ⟨flat_len E hlen, some a, _, rfl, hl, hm, fun hn => ?_⟩, hlen, fun i hi => ⟨n, _, (hE i hi).2⟩, fun n' cap' h => by cases h⟩
    have h00 := hcell 0 0 hn hpos
    have hs0 : (E 0)[0]? = some ((E 0)[0]'(by rw [hlen 0 hn]; exact hpos)) := List.getElem?_eq_getElem _
    rw [hs0] at h00
    have hspot : a.spot = none := by
      have e0 : a.add (0 * size + 0) = a := by simp [Addr.add]
      rw [e0] at h00
      unfold World.cell? at h00
      split at h00
      · split at h00
        · cases h00
        · rename_i hsp
          cases hs : a.spot with
          | none => rfl
          | some x => rw [hs] at hsp; simp at hsp
      · cases h00
    obtain ⟨b, off, sp⟩ := a
    simp only at hspot
    subst hspot
    have hb : b < w.heap.size := by
      have := World.block_lt_of_cell? w _ h00
      simpa [Addr.add] using this
    refine ⟨b, off, rfl, hb, fun j hj => ?_⟩
    have hi : j / size < len := Nat.div_lt_of_lt_mul (by rw [Nat.mul_comm]; exact hj)
    have hr : j % size < size := Nat.mod_lt _ hpos
    have hdm : j / size * size + j % size = j := by rw [Nat.mul_comm]; exact Nat.div_add_mod j size
    have h1 := hcell (j / size) (j % size) hi hr
    have h2 := flat_get (n := len) E hlen (j / size) (j % size) hi hr
    rw [hdm] at h1 h2
    rw [h2, ← h1, Addr.add_lit]
end
section
variable {H : Type} {enc : TypeId × Value → H} {W : World}
theorem wf64 {a : Int} (h : (Lit.int .i64 a).wf = true) : In64 a := by
  unfold In64
  simpa [Lit.wf, IntKind.min, IntKind.max, IntKind.signed, IntKind.bits] using h
theorem wf8' {a : Int} (h : (Lit.int .u8 a).wf = true) : 0 ≤ a ∧ a ≤ 255 := by
  simpa [Lit.wf, IntKind.min, IntKind.max, IntKind.signed, IntKind.bits] using h
theorem open_bytes {r : Reach} {b0 : Nat} {v : Value} {d : DataW H} {p : List MemPlace} (hv : Value.okWide Try.prog W r b0 22 v) (h : DataW.Trod enc Try.prog W 0 (fun _ => true) true 22 v d p) :
    ∃ A m cap d, v = .slice A m cap ∧ m ≤ cap ∧ cap ≤ maxLen ∧ (A = none → cap = 0) ∧ Byt W A m d ∧ ∀ i, d i < 256 := by
  obtain ⟨a0, len, cap0, rfl⟩ := okWide_slice Try.underlying22 hv
  obtain ⟨fuel, hf⟩ := h
  obtain ⟨n, E, hS, hE, hr, hnone⟩ := open_sl1 Try.underlying22 (size := 1) (by kernel_rfl) (by decide) (v := .slice a0 len cap0) hf
  have hS2 := hS
  obtain ⟨_, A, cap, he, g1, g2, _⟩ := hS2
  cases he
  have h1 : ∀ i, i < len → ∃ m : Nat, E i = [.int .u8 (m : Nat)] ∧ m < 256 := fun i hi => by
    obtain ⟨fuel, y, hy⟩ := hr i hi
    obtain ⟨k, hk, _, hw⟩ := DataW.trod_int Try.underlying5 hy
    obtain ⟨q1, q2⟩ := wf8' hw
    obtain ⟨m, rfl⟩ := Int.eq_ofNat_of_zero_le q1
    exact ⟨m, hk, by omega⟩
  obtain ⟨c, hc⟩ := Go.Deep.choose_lt (α := Nat) h1
  refine ⟨a0, len, cap0, fun i => if i < len then c i else 0, rfl, g1, g2, fun h => by subst h; exact hnone _ _ rfl, fun hn => ?_, fun i => ?_⟩
  · obtain ⟨b, off, rfl, hb, hcell⟩ := hS.cell hn
    refine ⟨b, off, rfl, hb, fun j hj => ?_⟩
    rw [hcell j (by omega)]
    have h2 := flat_get (n := len) E hE j 0 hj (by omega)
    rw [Nat.mul_one, Nat.add_zero] at h2
    rw [h2, (hc j hj).1]
    simp [hj]
  · show (if i < len then c i else 0) < 256
    split
    · exact (hc i ‹_›).2
    · omega
theorem open_nums {r : Reach} {b0 : Nat} {v : Value} {d : DataW H} {p : List MemPlace} (hv : Value.okWide Try.prog W r b0 31 v) (h : DataW.Trod enc Try.prog W 0 (fun _ => true) true 31 v d p) :
    ∃ A m cap f, v = .slice A m cap ∧ m ≤ cap ∧ cap ≤ maxLen ∧ Nums W A m f ∧ ∀ i, In64 (f i) := by
  obtain ⟨n, E, hS, hE, hr⟩ := open_sl Try.underlying31 (size := 1) (by kernel_rfl) (by decide) hv h
  have hS2 := hS
  obtain ⟨_, A, cap, rfl, g1, g2, _⟩ := hS2
  have h1 : ∀ i, i < n → ∃ m : Int, E i = [.int .i64 m] ∧ In64 m := fun i hi => by
    obtain ⟨fuel, y, hy⟩ := hr i hi
    obtain ⟨k, hk, _, hw⟩ := DataW.trod_int Try.underlying3 hy
    exact ⟨k, hk, wf64 hw⟩
  obtain ⟨c, hc⟩ := Go.Deep.choose_lt (α := Int) h1
  refine ⟨A, n, cap, fun i => if i < n then c i else 0, rfl, g1, g2, fun hn => ?_, fun i => ?_⟩
  · obtain ⟨b, off, rfl, hb, hcell⟩ := hS.cell hn
    refine ⟨b, off, rfl, hb, fun j hj => ?_⟩
    rw [hcell j (by omega)]
    have h2 := flat_get (n := n) E hE j 0 hj (by omega)
    rw [Nat.mul_one, Nat.add_zero] at h2
    rw [h2, (hc j hj).1]
    simp [hj]
  · show In64 (if i < n then c i else 0)
    split
    · exact (hc i ‹_›).2
    · unfold In64; omega
end
end Go.Proofs.Ytioghgnngdcicaa
