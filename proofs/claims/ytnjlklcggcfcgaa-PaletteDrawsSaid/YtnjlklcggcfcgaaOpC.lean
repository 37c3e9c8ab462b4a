/- Rows of bytes and of colours that came in. -/
import Derived.Test.YtnjlklcggcfcgaaOpA
import Derived.Test.YtnjlklcggcfcgaaDraw
namespace Go.Proofs.Ytnjlklcggcfcgaa
set_option linter.unusedVariables false
open Go.ChangeShapes Go.WideShapes Go.ChangeAt Go.RowKit

section
variable {H : Type} {enc : TypeId × Value → H} {W : World}
theorem wf8' {a : Int} (h : (Lit.int .u8 a).wf = true) : 0 ≤ a ∧ a ≤ 255 := by
  simpa [Lit.wf, IntKind.min, IntKind.max, IntKind.signed, IntKind.bits] using h
theorem open_bytes {r : Reach} {b0 : Nat} {v : Value} {d : DataW H} {p : List MemPlace} (hv : Value.okWide Try.prog W r b0 29 v) (h : DataW.Trod enc Try.prog W 0 (fun _ => true) true 29 v d p) :
    ∃ A m cap d, v = .slice A m cap ∧ m ≤ cap ∧ cap ≤ maxLen ∧ Byt W A m d ∧ ∀ i, d i < 256 := by
  obtain ⟨n, E, hS, hE, hr⟩ := open_sl Try.underlying29 (size := 1) (by kernel_rfl) (by decide) hv h
  have hS2 := hS
  obtain ⟨_, A, cap, rfl, g1, g2, _⟩ := hS2
  have h1 : ∀ i, i < n → ∃ m : Nat, E i = [.int .u8 (m : Nat)] ∧ m < 256 := fun i hi => by
    obtain ⟨fuel, y, hy⟩ := hr i hi
    obtain ⟨k, hk, _, hw⟩ := DataW.trod_int Try.underlying5 hy
    obtain ⟨q1, q2⟩ := wf8' hw
    obtain ⟨m, rfl⟩ := Int.eq_ofNat_of_zero_le q1
    exact ⟨m, hk, by omega⟩
  obtain ⟨c, hc⟩ := Go.Deep.choose_lt (α := Nat) h1
  refine ⟨A, n, cap, fun i => if i < n then c i else 0, rfl, g1, g2, fun hn => ?_, fun i => ?_⟩
  · obtain ⟨b, off, rfl, hb, hcell⟩ := hS.cell hn
    refine ⟨b, off, rfl, hb, fun j hj => ?_⟩
    rw [hcell j (by omega)]
    have h2 := flat_get (n := n) E hE j 0 hj (by omega)
    rw [Nat.mul_one, Nat.add_zero] at h2
    rw [h2, (hc j hj).1]
    simp [hj]
  · show (if i < n then c i else 0) < 256
    split
    · exact (hc i ‹_›).2
    · omega
theorem p4_of_trod {fuel : Nat} {E : List Value} {y : DataW H × List MemPlace} (hl : E.length = 4) (hf : DataW.trod enc Try.prog W 0 (fun _ => true) true fuel 47 E = some y) : ∃ q : P4, E = cP q ∧ w4 q := by
  obtain ⟨xs, m, _, _, _, hx, hg⟩ := DataW.trod_array Try.underlying47 hf
  have c3 : Try.prog.cellsOf 46 = 1 := by kernel_rfl
  match E, hl with
  | [c0, c1, c2, c3'], _ =>
    have g0 := hg 0 (by omega)
    have g1 := hg 1 (by omega)
    have g2 := hg 2 (by omega)
    have g3 := hg 3 (by omega)
    simp only [c3, Value.cells, List.drop_zero, Nat.one_mul, Nat.zero_mul, Nat.reduceMul, List.drop_succ_cons, List.take_succ_cons, List.take_zero] at g0 g1 g2 g3
    rw [List.getElem?_eq_getElem (by omega)] at g0 g1 g2 g3
    obtain ⟨a, ha, _, hwa⟩ := DataW.trod_int Try.underlying46 g0
    obtain ⟨b, hb, _, hwb⟩ := DataW.trod_int Try.underlying46 g1
    obtain ⟨c, hc, _, hwc⟩ := DataW.trod_int Try.underlying46 g2
    obtain ⟨d', hd, _, hwd⟩ := DataW.trod_int Try.underlying46 g3
    simp at ha hb hc hd
    subst ha hb hc hd
    have wa := wf16' hwa
    have wb := wf16' hwb
    have wc := wf16' hwc
    have wd := wf16' hwd
    obtain ⟨a, rfl⟩ := Int.eq_ofNat_of_zero_le wa.1
    obtain ⟨b, rfl⟩ := Int.eq_ofNat_of_zero_le wb.1
    obtain ⟨c, rfl⟩ := Int.eq_ofNat_of_zero_le wc.1
    obtain ⟨d', rfl⟩ := Int.eq_ofNat_of_zero_le wd.1
    exact ⟨(a, b, c, d'), rfl, by unfold w4; simp only; omega⟩
theorem open_cols {r : Reach} {b0 : Nat} {v : Value} {d : DataW H} {p : List MemPlace} (hv : Value.okWide Try.prog W r b0 26 v) (h : DataW.Trod enc Try.prog W 0 (fun _ => true) true 26 v d p) :
    ∃ (L : List P4) (A : Option Addr) (cap : Nat), v = .slice A L.length cap ∧ L.length ≤ cap ∧ cap ≤ maxLen ∧ Sl W (.slice A L.length cap) 4 L.length (cellsP L) ∧ ∀ q ∈ L, w4 q := by
  obtain ⟨n, E, hS, hE, hr⟩ := open_sl Try.underlying26 (size := 4) (by kernel_rfl) (by decide) hv h
  have h1 : ∀ i, i < n → ∃ q : P4, E i = cP q ∧ w4 q := fun i hi => by
    obtain ⟨fuel, y, hy⟩ := hr i hi
    exact p4_of_trod (hE i hi) hy
  obtain ⟨c, hc⟩ := Go.Deep.choose_lt (α := P4) h1
  have hL : (List.range n).flatMap E = cellsP ((List.range n).map c) := by
    unfold cellsP
    rw [List.flatMap_map]
    have : ∀ l : List Nat, (∀ i ∈ l, i < n) → l.flatMap E = l.flatMap fun a => cP (c a) := by
      intro l
      induction l with
      | nil => intro _; rfl
      | cons i l ih =>
        intro hl
        rw [List.flatMap_cons, List.flatMap_cons, ih (fun j hj => hl j (by simp [hj])), (hc i (hl i (by simp))).1]
    exact this _ (fun i hi => by simpa using hi)
  rw [hL] at hS
  have hS2 := hS
  obtain ⟨_, A, cap, rfl, g1, g2, _⟩ := hS2
  have hlen : ((List.range n).map c).length = n := by simp
  refine ⟨(List.range n).map c, A, cap, by rw [hlen], by rw [hlen]; exact g1, g2, by rw [hlen]; exact hS, fun q hq => ?_⟩
  obtain ⟨i, hi, rfl⟩ := List.mem_map.1 hq
  exact (hc i (by simpa using hi)).2
end
end Go.Proofs.Ytnjlklcggcfcgaa
