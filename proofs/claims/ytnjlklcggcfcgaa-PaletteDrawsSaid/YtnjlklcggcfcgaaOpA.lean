/- Arrays that came in: two integers, a pixel. -/
import Derived.Test.YtnjlklcggcfcgaaOpR
import Derived.Test.YtnjlklcggcfcgaaUni
namespace Go.Proofs.Ytnjlklcggcfcgaa
set_option linter.unusedVariables false
open Go.ChangeShapes Go.WideShapes Go.ChangeAt Go.RowKit

section
variable {H : Type} {enc : TypeId × Value → H} {W : World} {P : Program}
theorem okWide_arr {r : Reach} {b0 n : Nat} {t e : TypeId} {v : Value} (ht : P.underlying t = some (.array n e)) (h : Value.okWide P W r b0 t v) : ∃ cs, v = .agg cs ∧ cs.size = P.cellsOf t := by
  simp only [Value.okWide, ht] at h
  obtain ⟨cs, h1, h2, _⟩ := h
  exact ⟨cs, h1, h2⟩
theorem open_i2 {r : Reach} {b0 : Nat} {v : Value} {d : DataW H} {p : List MemPlace} (hv : Value.okWide Try.prog W r b0 38 v) (h : DataW.Trod enc Try.prog W 0 (fun _ => true) true 38 v d p) :
    ∃ x y, v = .agg #[.int .i64 x, .int .i64 y] ∧ In64 x ∧ In64 y := by
  obtain ⟨cs, rfl, hsz⟩ := okWide_arr Try.underlying38 hv
  rw [show Try.prog.cellsOf 38 = 2 from by kernel_rfl] at hsz
  obtain ⟨fuel, hf⟩ := h
  obtain ⟨xs, m, _, _, _, hx, hg⟩ := DataW.trod_array Try.underlying38 hf
  have c3 : Try.prog.cellsOf 3 = 1 := by kernel_rfl
  match cs, hsz with
  | ⟨[c0, c1]⟩, _ =>
    have g0 := hg 0 (by omega)
    have g1 := hg 1 (by omega)
    simp only [c3, Value.cells, List.drop_zero, Nat.one_mul, Nat.zero_mul, List.drop_succ_cons, List.take_succ_cons, List.take_zero] at g0 g1
    rw [List.getElem?_eq_getElem (by omega)] at g0 g1
    obtain ⟨a, ha, _, hwa⟩ := DataW.trod_int Try.underlying3 g0
    obtain ⟨b, hb, _, hwb⟩ := DataW.trod_int Try.underlying3 g1
    simp at ha hb
    subst ha hb
    exact ⟨a, b, rfl, wf64 hwa, wf64 hwb⟩
theorem open_p4 {r : Reach} {b0 : Nat} {v : Value} {d : DataW H} {p : List MemPlace} (hv : Value.okWide Try.prog W r b0 47 v) (h : DataW.Trod enc Try.prog W 0 (fun _ => true) true 47 v d p) :
    ∃ q : P4, v = .agg #[.int .u16 (q.1 : Nat), .int .u16 (q.2.1 : Nat), .int .u16 (q.2.2.1 : Nat), .int .u16 (q.2.2.2 : Nat)] ∧ w4 q := by
  obtain ⟨cs, rfl, hsz⟩ := okWide_arr Try.underlying47 hv
  rw [show Try.prog.cellsOf 47 = 4 from by kernel_rfl] at hsz
  obtain ⟨fuel, hf⟩ := h
  obtain ⟨xs, m, _, _, _, hx, hg⟩ := DataW.trod_array Try.underlying47 hf
  have c3 : Try.prog.cellsOf 46 = 1 := by kernel_rfl
  match cs, hsz with
  | ⟨[c0, c1, c2, c3']⟩, _ =>
    have g0 := hg 0 (by omega)
    have g1 := hg 1 (by omega)
    have g2 := hg 2 (by omega)
    have g3 := hg 3 (by omega)
    simp only [c3, Value.cells, List.drop_zero, Nat.one_mul, Nat.zero_mul, Nat.reduceMul, List.drop_succ_cons, List.take_succ_cons, List.take_zero] at g0 g1 g2 g3
    rw [List.getElem?_eq_getElem (by omega)] at g0 g1 g2 g3
    obtain ⟨a, ha, _, hwa⟩ := DataW.trod_int Try.underlying46 g0
    obtain ⟨b, hb, _, hwb⟩ := DataW.trod_int Try.underlying46 g1
    obtain ⟨c, hc, _, hwc⟩ := DataW.trod_int Try.underlying46 g2
    obtain ⟨d', hd, _, hwd⟩ := DataW.trod_int Try.underlying46 g3
    simp at ha hb hc hd
    subst ha hb hc hd
    have wa := wf16' hwa
    have wb := wf16' hwb
    have wc := wf16' hwc
    have wd := wf16' hwd
    obtain ⟨a, rfl⟩ := Int.eq_ofNat_of_zero_le wa.1
    obtain ⟨b, rfl⟩ := Int.eq_ofNat_of_zero_le wb.1
    obtain ⟨c, rfl⟩ := Int.eq_ofNat_of_zero_le wc.1
    obtain ⟨d', rfl⟩ := Int.eq_ofNat_of_zero_le wd.1
    exact ⟨(a, b, c, d'), rfl, by unfold w4; simp only; omega⟩
end
end Go.Proofs.Ytnjlklcggcfcgaa
