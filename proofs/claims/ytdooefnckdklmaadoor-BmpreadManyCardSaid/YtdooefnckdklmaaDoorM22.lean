/- Bytes, and four bytes, that came in. -/
import Derived.Test.YtdooefnckdklmaaDoorM21

namespace Go.Proofs.YtdooefnckdklmaaDoor
set_option maxRecDepth 100000
set_option linter.unusedVariables false
open Go.ChangeShapes Go.WideShapes Go.ChangeAt Go.RowKit

section
variable {H : Type} {enc : TypeId × Value → H} {W : World}
theorem open_b4 {r : Reach} {b0 : Nat} {v : Value} {d : DataW H} {p : List MemPlace} (hv : Value.okWide Tryd.prog W r b0 50 v) (h : DataW.Trod enc Tryd.prog W 0 (fun _ => true) true 50 v d p) :
    ∃ q : P4, v = .agg #[.int .u8 (q.1 : Nat), .int .u8 (q.2.1 : Nat), .int .u8 (q.2.2.1 : Nat), .int .u8 (q.2.2.2 : Nat)] ∧ q.1 < 256 ∧ q.2.1 < 256 ∧ q.2.2.1 < 256 ∧ q.2.2.2 < 256 := by
  obtain ⟨cs, rfl, hsz⟩ := okWide_arr Tryd.underlying50 hv
  rw [show Tryd.prog.cellsOf 50 = 4 from by kernel_rfl] at hsz
  obtain ⟨fuel, hf⟩ := h
  obtain ⟨xs, m, _, _, _, hx, hg⟩ := DataW.trod_array Tryd.underlying50 hf
  have c3 : Tryd.prog.cellsOf 5 = 1 := by kernel_rfl
  match cs, hsz with
  | ⟨[c0, c1, c2, c3']⟩, _ =>
    have g0 := hg 0 (by omega)
    have g1 := hg 1 (by omega)
    have g2 := hg 2 (by omega)
    have g3 := hg 3 (by omega)
    simp only [c3, Value.cells, List.drop_zero, Nat.one_mul, Nat.zero_mul, Nat.reduceMul, List.drop_succ_cons, List.take_succ_cons, List.take_zero] at g0 g1 g2 g3
    rw [List.getElem?_eq_getElem (by omega)] at g0 g1 g2 g3
    obtain ⟨a, ha, _, hwa⟩ := DataW.trod_int Tryd.underlying5 g0
    obtain ⟨b, hb, _, hwb⟩ := DataW.trod_int Tryd.underlying5 g1
    obtain ⟨c, hc, _, hwc⟩ := DataW.trod_int Tryd.underlying5 g2
    obtain ⟨d', hd, _, hwd⟩ := DataW.trod_int Tryd.underlying5 g3
    simp at ha hb hc hd
    subst ha hb hc hd
    have wa := wf8' hwa
    have wb := wf8' hwb
    have wc := wf8' hwc
    have wd := wf8' hwd
    obtain ⟨a, rfl⟩ := Int.eq_ofNat_of_zero_le wa.1
    obtain ⟨b, rfl⟩ := Int.eq_ofNat_of_zero_le wb.1
    obtain ⟨c, rfl⟩ := Int.eq_ofNat_of_zero_le wc.1
    obtain ⟨d', rfl⟩ := Int.eq_ofNat_of_zero_le wd.1
    exact ⟨(a, b, c, d'), rfl, by simp only; omega⟩
theorem open_byt {r : Reach} {b0 : Nat} {v : Value} {d : DataW H} {p : List MemPlace} (hv : Value.okWide Tryd.prog W r b0 22 v) (h : DataW.Trod enc Tryd.prog W 0 (fun _ => true) true 22 v d p) :
    ∃ A m cap d, v = .slice A m cap ∧ m ≤ cap ∧ cap ≤ maxLen ∧ (A = none → cap = 0) ∧ Byt W A m d ∧ ∀ i, d i < 256 := by
  obtain ⟨a0, len, cap0, rfl⟩ := okWide_slice Tryd.underlying22 hv
  obtain ⟨fuel, hf⟩ := h
  obtain ⟨n, E, hS, hE, hr, hnone⟩ := open_sl1 Tryd.underlying22 (size := 1) (by kernel_rfl) (by decide) (v := .slice a0 len cap0) hf
  have hS2 := hS
  obtain ⟨_, A, cap, he, g1, g2, _⟩ := hS2
  cases he
  have h1 : ∀ i, i < len → ∃ m : Nat, E i = [.int .u8 (m : Nat)] ∧ m < 256 := fun i hi => by
    obtain ⟨fuel, y, hy⟩ := hr i hi
    obtain ⟨k, hk, _, hw⟩ := DataW.trod_int Tryd.underlying5 hy
    obtain ⟨q1, q2⟩ := wf8' hw
    obtain ⟨m, rfl⟩ := Int.eq_ofNat_of_zero_le q1
    exact ⟨m, hk, by omega⟩
  obtain ⟨c, hc⟩ := Go.Deep.choose_lt (α := Nat) h1
  refine ⟨a0, len, cap0, fun i => if i < len then c i else 0, rfl, g1, g2, fun h => by subst h; exact hnone _ _ rfl, fun hn => ?_, fun i => ?_⟩
  · obtain ⟨b, off, rfl, hb, hcell⟩ := hS.cell hn
    refine ⟨b, off, rfl, hb, fun j hj => ?_⟩
    rw [hcell j (by omega)]
    have h2 := flat_get (n := len) E hE j 0 hj (by omega)
    rw [Nat.mul_one, Nat.add_zero] at h2
    rw [h2, (hc j hj).1]
    simp [hj]
  · show (if i < len then c i else 0) < 256
    split
    · exact (hc i ‹_›).2
    · omega
end
end Go.Proofs.YtdooefnckdklmaaDoor
