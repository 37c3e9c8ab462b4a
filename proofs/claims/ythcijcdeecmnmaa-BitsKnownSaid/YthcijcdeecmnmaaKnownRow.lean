/- BitsKnown: chapter 1's examples, and the borders. -/
import Derived.Test.YthcijcdeecmnmaaRows
import Derived.Test.YthcijcdeecmnmaaLift
import Derived.Test.YthcijcdeecmnmaaKnW
namespace Go.Proofs.Ythcijcdeecmnmaa.bitsKnown
open Go.ChangeShapes Go.WideShapes Go.ChangeAt Go.RowKit
set_option linter.unusedVariables false

theorem own : ownKnob Try.prog.godebug = none := by kernel_rfl
theorem laidOut : laidOutB Try.prog = true := by kernel_rfl
set_option maxRecDepth 100000 in
theorem lifted (os : Os) (started : os.Started) (H : Type) (enc : TypeId × Value → H) :
    ReturnsInHanded {} Try.checked os 5 .any (Rows.bitsKnownSpec.pre6 enc Try.prog Try.f5 Rows.bitsKnownRow.domain false) (Rows.bitsKnownSpec.post enc Try.prog Try.f5 false true false false) := by
  refine law_returns (C := Try.checked) (tb := 4) own started (by kernel_rfl) Try.func5 laidOut Try.underlying4 rfl rfl ?_ ?_
    (ChangeSpec.witness6 (enc := enc) (C := Try.checked) false ⟨#[], #[], []⟩ 8 (by kernel_rfl) (by kernel_rfl) (by kernel_rfl) (by kernel_rfl)) ?_
  · intro t ht
    simp [Try.params5] at ht
  · intro ds hd
    match ds, hd with
    | [], _ => rfl
  · intro W base args ds p hval hA hfz hreach
    have hA2 : DataW.TrodAll enc Try.prog W 0 (fun _ => true) true Try.f5.params.toList args.toList ds p := hA
    have hval2 : ∀ (j : Nat) t v, Try.f5.params[j]? = some t → args[j]? = some v → Value.okWide Try.prog W .any base t v := hval
    rw [Try.params5] at hA2 hval2
    obtain ⟨hargs, rfl, rfl⟩ := trodAll_nil hA2
    obtain rfl : args = #[] := by cases args; simp_all
    exact known_walk W

theorem over : Rows.bitsKnownRow.holds Try.pinned (OpenSpec.ofChange Rows.bitsKnownSpec) :=
  OpenClaim.holds_of_wide 5 Try.f5 rfl rfl rfl rfl rfl rfl rfl ⟨rfl, rfl, rfl, rfl, rfl⟩ rfl rfl rfl rfl rfl (by kernel_rfl) Try.func5 (by kernel_rfl)
    (of_decide_eq_true (by kernel_rfl)) (by unfold Func.isWrapper; first | (rw [if_pos (by decide +kernel)]; kernel_rfl) | (rw [if_neg (by decide +kernel)]; exact ⟨rfl, rfl⟩))
    (fun os started H enc _ => lifted os started H enc)

theorem proved : Rows.BitsKnownSaid :=
  over
#print axioms proved
end Go.Proofs.Ythcijcdeecmnmaa.bitsKnown
