/- An array of two integers that came in. -/
import Derived.Test.YtioghgnngdcicaaOpB
namespace Go.Proofs.Ytioghgnngdcicaa
set_option linter.unusedVariables false
open Go.ChangeShapes Go.WideShapes Go.ChangeAt Go.RowKit

section
variable {H : Type} {enc : TypeId × Value → H} {W : World} {P : Program}
theorem okWide_arr {r : Reach} {b0 n : Nat} {t e : TypeId} {v : Value} (ht : P.underlying t = some (.array n e)) (h : Value.okWide P W r b0 t v) : ∃ cs, v = .agg cs ∧ cs.size = P.cellsOf t := by
  simp only [Value.okWide, ht] at h
  obtain ⟨cs, h1, h2, _⟩ := h
  exact ⟨cs, h1, h2⟩
theorem open_i2 {r : Reach} {b0 : Nat} {v : Value} {d : DataW H} {p : List MemPlace} (hv : Value.okWide Try.prog W r b0 30 v) (h : DataW.Trod enc Try.prog W 0 (fun _ => true) true 30 v d p) :
    ∃ x y, v = .agg #[.int .i64 x, .int .i64 y] ∧ In64 x ∧ In64 y := by
  obtain ⟨cs, rfl, hsz⟩ := okWide_arr Try.underlying30 hv
  rw [show Try.prog.cellsOf 30 = 2 from by kernel_rfl] at hsz
  obtain ⟨fuel, hf⟩ := h
  obtain ⟨xs, m, _, _, _, hx, hg⟩ := DataW.trod_array Try.underlying30 hf
  have c3 : Try.prog.cellsOf 3 = 1 := by kernel_rfl
  match cs, hsz with
  | ⟨[c0, c1]⟩, _ =>
    have g0 := hg 0 (by omega)
    have g1 := hg 1 (by omega)
    simp only [c3, Value.cells, List.drop_zero, Nat.one_mul, Nat.zero_mul, List.drop_succ_cons, List.take_succ_cons, List.take_zero] at g0 g1
    rw [List.getElem?_eq_getElem (by omega)] at g0 g1
    obtain ⟨a, ha, _, hwa⟩ := DataW.trod_int Try.underlying3 g0
    obtain ⟨b, hb, _, hwb⟩ := DataW.trod_int Try.underlying3 g1
    simp at ha hb
    subst ha hb
    exact ⟨a, b, rfl, wf64 hwa, wf64 hwb⟩
end
end Go.Proofs.Ytioghgnngdcicaa
