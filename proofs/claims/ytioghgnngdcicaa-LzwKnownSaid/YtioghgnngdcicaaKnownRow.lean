/- LzwKnown: sizes, limits, codes and values that may not be are told as the document says; an end at once is nothing. -/
import Derived.Test.YtioghgnngdcicaaRows
import Derived.Test.YtioghgnngdcicaaLift
import Derived.Test.YtioghgnngdcicaaLzKn
namespace Go.Proofs.Ytioghgnngdcicaa.lzwKnown
open Go.ChangeShapes Go.WideShapes Go.ChangeAt Go.RowKit
set_option linter.unusedVariables false

theorem own : ownKnob Try.prog.godebug = none := by kernel_rfl
theorem laidOut : laidOutB Try.prog = true := by kernel_rfl
set_option maxRecDepth 100000 in
theorem lifted (os : Os) (started : os.Started) (H : Type) (enc : TypeId × Value → H) :
    ReturnsInHanded {} Try.checked os 8 .any (Rows.lzwKnownSpec.pre6 enc Try.prog Try.f8 Rows.lzwKnownRow.domain false) (Rows.lzwKnownSpec.post enc Try.prog Try.f8 false true false false) := by
  refine law_returns (C := Try.checked) (tb := 4) own started (by kernel_rfl) Try.func8 laidOut Try.underlying4 rfl rfl ?_ ?_
    (ChangeSpec.witness6 (enc := enc) (C := Try.checked) false ⟨#[], #[], []⟩ 8 (by kernel_rfl) (by kernel_rfl) (by kernel_rfl) (by kernel_rfl)) ?_
  · intro t ht
    simp [Try.params8] at ht
  · intro ds hd
    match ds, hd with
    | [], _ => rfl
  · intro W base args ds p hval hA hfz hreach
    have hA2 : DataW.TrodAll enc Try.prog W 0 (fun _ => true) true Try.f8.params.toList args.toList ds p := hA
    have hval2 : ∀ (j : Nat) t v, Try.f8.params[j]? = some t → args[j]? = some v → Value.okWide Try.prog W .any base t v := hval
    rw [Try.params8] at hA2 hval2
    obtain ⟨hargs, rfl, rfl⟩ := trodAll_nil hA2
    obtain rfl : args = #[] := by cases args; simp_all
    exact known_walk W

theorem over : Rows.lzwKnownRow.holds Try.pinned (OpenSpec.ofChange Rows.lzwKnownSpec) :=
  OpenClaim.holds_of_wide 8 Try.f8 rfl rfl rfl rfl rfl rfl rfl ⟨rfl, rfl, rfl, rfl, rfl⟩ rfl rfl rfl rfl rfl (by kernel_rfl) Try.func8 (by kernel_rfl)
    (of_decide_eq_true (by kernel_rfl)) (by unfold Func.isWrapper; first | (rw [if_pos (by decide +kernel)]; kernel_rfl) | (rw [if_neg (by decide +kernel)]; exact ⟨rfl, rfl⟩))
    (fun os started H enc _ => lifted os started H enc)

theorem proved : Rows.LzwKnownSaid :=
  over
#print axioms proved
end Go.Proofs.Ytioghgnngdcicaa.lzwKnown
