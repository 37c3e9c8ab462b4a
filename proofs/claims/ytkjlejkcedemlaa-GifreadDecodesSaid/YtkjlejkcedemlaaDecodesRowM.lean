/- GifreadDecodes: any bytes: the program reads the picture, or tells the first error, that the document says. -/
import Derived.Test.YtkjlejkcedemlaaM21
import Derived.Test.YtkjlejkcedemlaaRows
namespace Go.Proofs.Ytkjlejkcedemlaa.gifreadDecodes
open Go.ChangeShapes Go.WideShapes Go.ChangeAt Go.RowKit
set_option linter.unusedVariables false

theorem own : ownKnob Try.prog.godebug = none := by kernel_rfl
theorem laidOut : laidOutB Try.prog = true := by kernel_rfl
set_option maxRecDepth 100000 in
theorem lifted (os : Os) (started : os.Started) (H : Type) (enc : TypeId × Value → H) :
    ReturnsInHanded {} Try.checked os 3 .any (Rows.gifreadDecodesSpec.pre6 enc Try.prog Try.f3 Rows.gifreadDecodesRow.domain false) (Rows.gifreadDecodesSpec.post enc Try.prog Try.f3 false true false false) := by
  refine law_returns (C := Try.checked) (tb := 4) own started (by kernel_rfl) Try.func3 laidOut Try.underlying4 rfl rfl ?_ ?_
    (ChangeSpec.witness6 (enc := enc) (C := Try.checked) false ⟨#[], #[.slice none 0 0], []⟩ 8 (by kernel_rfl) (by kernel_rfl) (by kernel_rfl) (by kernel_rfl)) ?_
  · intro t ht
    have ht2 : t = 22 := by first | simpa [Try.params3] using ht | (simp [Try.params3] at ht; rcases ht with h <;> simp [h])
    subst ht2
    exact ⟨by kernel_rfl, of_decide_eq_true (by kernel_rfl)⟩
  · intro ds hd
    match ds, hd with
    | [d0], _ => rfl
  · intro W base args ds p hval hA hfz hreach
    have hA2 : DataW.TrodAll enc Try.prog W 0 (fun _ => true) true Try.f3.params.toList args.toList ds p := hA
    have hval2 : ∀ (j : Nat) t v, Try.f3.params[j]? = some t → args[j]? = some v → Value.okWide Try.prog W .any base t v := hval
    rw [Try.params3] at hA2 hval2
    obtain ⟨v0, vs0, d0, ds0, p0, q0, hargs, rfl, rfl, h0, r0⟩ := trodAll_cons hA2
    obtain ⟨rfl, rfl, rfl⟩ := trodAll_nil r0
    obtain rfl : args = #[v0] := by cases args; simp_all
    obtain ⟨A, n, cap, b, rfl, hb1, hb2, hb3, hB, hb⟩ := open_bytes (hval2 0 22 v0 rfl rfl) h0
    exact decodes_walk A n cap b hb hb1 hb2 hb3 W hB

theorem over : Rows.gifreadDecodesRow.holds Try.pinned (OpenSpec.ofChange Rows.gifreadDecodesSpec) :=
  OpenClaim.holds_of_wide 3 Try.f3 rfl rfl rfl rfl rfl rfl rfl ⟨rfl, rfl, rfl, rfl, rfl⟩ rfl rfl rfl rfl rfl (by kernel_rfl) Try.func3 (by kernel_rfl)
    (of_decide_eq_true (by kernel_rfl)) (by unfold Func.isWrapper; first | (rw [if_pos (by decide +kernel)]; kernel_rfl) | (rw [if_neg (by decide +kernel)]; exact ⟨rfl, rfl⟩))
    (fun os started H enc _ => lifted os started H enc)

theorem proved : Rows.GifreadDecodesSaid :=
  over
#print axioms proved
end Go.Proofs.Ytkjlejkcedemlaa.gifreadDecodes
