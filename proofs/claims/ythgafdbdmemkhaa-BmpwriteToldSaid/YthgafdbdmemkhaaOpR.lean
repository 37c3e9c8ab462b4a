/- A picture that came in: its sides, its samples. -/
import Derived.Test.YthgafdbdmemkhaaOpen
import Derived.Test.YthgafdbdmemkhaaGet
import Derived.Lib.SmallJoins
namespace Go.Proofs.Ythgafdbdmemkhaa
set_option linter.unusedVariables false
open Go.ChangeShapes Go.WideShapes Go.ChangeAt Go.RowKit

section
variable {H : Type} {enc : TypeId × Value → H} {P : Program} {w : World}
/-- A slice in one cell: its elements' cells, and that each reads. -/
theorem open_sl1 {t e size fuel : Nat} {v : Value} {y : DataW H × List MemPlace} (ht : P.underlying t = some (.slice e)) (hsz : P.cellsOf e = size) (hpos : 0 < size)
    (hf : DataW.trod enc P w 0 (fun _ => true) true fuel t [v] = some y) :
    ∃ (n : Nat) (E : Nat → List Value), Sl w v size n ((List.range n).flatMap E) ∧ (∀ i, i < n → (E i).length = size) ∧
      (∀ i, i < n → ∃ fuel y, DataW.trod enc P w 0 (fun _ => true) true fuel e (E i) = some y) ∧ ∀ n' cap, v = .slice none n' cap → cap = 0 := by
  rcases Go.Deep.open_slice ht hf with ⟨hcs, _⟩ | ⟨a, len, cap, m, n, D, Pl, hcs, _, hl, hm, hmm, _, hx⟩
  · simp at hcs
    subst hcs
    exact ⟨0, fun _ => [], by simpa using Sl.nil w size, fun i hi => by omega, fun i hi => by omega, fun n' cap h => by injection h with _ _ h; exact h.symm⟩
  · simp at hcs
    subst hcs
    simp only [if_true] at hmm
    subst hmm
    have hx' : ∀ i, i < len → ∃ cs' : List Value, w.cells? 0 (a.add (i * P.cellsOf e)) (P.cellsOf e) = some cs' ∧ DataW.trod enc P w 0 (fun _ => true) true n e cs' = some (D i, Pl i) := fun i hi => hx i (by omega)
    obtain ⟨E, hE⟩ := Go.Deep.choose_lt (α := List Value) hx'
    have hlen : ∀ i, i < len → (E i).length = size := fun i hi => by
      obtain ⟨_, h2, _⟩ := World.cells?_some (hE i hi).1
      rw [← hsz]; exact h2
    have hcell : ∀ i j, i < len → j < size → w.cell? (a.add (i * size + j)) = (E i)[j]? := fun i j hi hj => by
      obtain ⟨_, h2, h3⟩ := World.cells?_some (hE i hi).1
      have hj' : j < P.cellsOf e := by rw [hsz]; exact hj
      have := h3 j hj'
      rw [Go.Deep.add_add, hsz] at this
      exact this
    refine ⟨len, E, ⟨flat_len E hlen, some a, _, rfl, hl, hm, fun hn => ?_⟩, hlen, fun i hi => ⟨n, _, (hE i hi).2⟩, fun n' cap' h => by cases h⟩
    have h00 := hcell 0 0 hn hpos
    have hs0 : (E 0)[0]? = some ((E 0)[0]'(by rw [hlen 0 hn]; exact hpos)) := List.getElem?_eq_getElem _
    rw [hs0] at h00
    have hspot : a.spot = none := by
      have e0 : a.add (0 * size + 0) = a := by simp [Addr.add]
      rw [e0] at h00
      unfold World.cell? at h00
      split at h00
      · split at h00
        · cases h00
        · rename_i hsp
          cases hs : a.spot with
          | none => rfl
          | some x => rw [hs] at hsp; simp at hsp
      · cases h00
    obtain ⟨b, off, sp⟩ := a
    simp only at hspot
    subst hspot
    have hb : b < w.heap.size := by
      have := World.block_lt_of_cell? w _ h00
      simpa [Addr.add] using this
    refine ⟨b, off, rfl, hb, fun j hj => ?_⟩
    have hi : j / size < len := Nat.div_lt_of_lt_mul (by rw [Nat.mul_comm]; exact hj)
    have hr : j % size < size := Nat.mod_lt _ hpos
    have hdm : j / size * size + j % size = j := by rw [Nat.mul_comm]; exact Nat.div_add_mod j size
    have h1 := hcell (j / size) (j % size) hi hr
    have h2 := flat_get (n := len) E hlen (j / size) (j % size) hi hr
    rw [hdm] at h1 h2
    rw [h2, ← h1, Addr.add_lit]
end
section
variable {H : Type} {enc : TypeId × Value → H} {W : World}
theorem struct25 : ∃ f0 f1 f2 : Field, Try.prog.underlying 26 = some (.struct #[f0, f1, f2]) ∧ Deep.oneCellFields Try.prog #[f0, f1, f2] = true ∧ f0.type = 3 ∧ f1.type = 3 ∧ f2.type = 24 :=
  ⟨_, _, _, Try.underlying26, by kernel_rfl, rfl, rfl, rfl⟩
theorem wf64 {a : Int} (h : (Lit.int .i64 a).wf = true) : In64 a := by
  unfold In64
  simpa [Lit.wf, IntKind.min, IntKind.max, IntKind.signed, IntKind.bits] using h
theorem wf16' {a : Int} (h : (Lit.int .u16 a).wf = true) : 0 ≤ a ∧ a ≤ 65535 := by
  simpa [Lit.wf, IntKind.min, IntKind.max, IntKind.signed, IntKind.bits] using h
theorem flat_one {n : Nat} (c : Nat → Nat) : (List.range n).flatMap (fun i => [Value.int .u16 (c i : Nat)]) = (List.range n).map fun i => Value.int .u16 (c i : Nat) := by
  induction n with
  | zero => rfl
  | succ n ih => rw [List.range_succ, List.flatMap_append, List.map_append, ih]; rfl
/-- Samples that came in. -/
theorem pix_of {A : Option Addr} {n cap : Nat} {E : Nat → List Value} (hS : Sl W (.slice A n cap) 1 n ((List.range n).flatMap E)) (hE : ∀ i, i < n → (E i).length = 1)
    (hr : ∀ i, i < n → ∃ fuel y, DataW.trod enc Try.prog W 0 (fun _ => true) true fuel 28 (E i) = some y) : ∃ c : Nat → Nat, (∀ i, c i < 65536) ∧ Pix W A n c := by
  have h1 : ∀ i, i < n → ∃ m : Nat, E i = [.int .u16 (m : Nat)] ∧ m < 65536 := fun i hi => by
    obtain ⟨fuel, y, hy⟩ := hr i hi
    obtain ⟨k, hk, _, hw⟩ := DataW.trod_int Try.underlying28 hy
    obtain ⟨q1, q2⟩ := wf16' hw
    obtain ⟨m, rfl⟩ := Int.eq_ofNat_of_zero_le q1
    exact ⟨m, hk, by omega⟩
  obtain ⟨c, hc⟩ := Go.Deep.choose_lt (α := Nat) h1
  refine ⟨fun i => if i < n then c i else 0, fun i => ?_, fun hn => ?_⟩
  · show (if i < n then c i else 0) < 65536
    split
    · exact (hc i ‹_›).2
    · omega
  · obtain ⟨b, off, rfl, hb, hcell⟩ := hS.cell hn
    refine ⟨b, off, rfl, hb, fun j hj => ?_⟩
    rw [hcell j (by omega)]
    have h2 := flat_get (n := n) E hE j 0 hj (by omega)
    rw [Nat.mul_one, Nat.add_zero] at h2
    rw [h2, (hc j hj).1]
    simp [hj]
theorem open_ras {r : Reach} {b0 : Nat} {v : Value} {d : DataW H} {p : List MemPlace} (hv : Value.okWide Try.prog W r b0 26 v) (h : DataW.Trod enc Try.prog W 0 (fun _ => true) true 26 v d p) :
    ∃ a b A n cap c, v = .agg #[.int .i64 a, .int .i64 b, .slice A n cap] ∧ In64 a ∧ In64 b ∧ n ≤ cap ∧ cap ≤ maxLen ∧ (A = none → cap = 0) ∧ Pix W A n c ∧ ∀ i, c i < 65536 := by
  obtain ⟨f0, f1, f2, hs, hone, t0, t1, t2⟩ := struct25
  obtain ⟨v0, v1, v2, y0, y1, y2, n, rfl, _, _, h0, h1, h2⟩ := Joins.open_agg3 hs hone (by kernel_rfl) hv h
  rw [t0] at h0
  rw [t1] at h1
  rw [t2] at h2
  obtain ⟨a, ha, _, hwa⟩ := DataW.trod_int Try.underlying3 h0
  obtain ⟨b, hb, _, hwb⟩ := DataW.trod_int Try.underlying3 h1
  obtain ⟨m, E, hS, hE, hr, hnone⟩ := open_sl1 Try.underlying24 (size := 1) (by kernel_rfl) (by decide) h2
  have hS2 := hS
  obtain ⟨_, A, cap, rfl, g1, g2, _⟩ := hS2
  obtain ⟨c, hc, hP⟩ := pix_of hS hE hr
  simp at ha hb
  subst ha hb
  exact ⟨a, b, A, m, cap, c, rfl, wf64 hwa, wf64 hwb, g1, g2, fun h => by subst h; exact hnone _ _ rfl, hP, hc⟩
end
end Go.Proofs.Ythgafdbdmemkhaa
