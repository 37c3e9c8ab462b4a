/- GifwriteBack: any picture that fits is read as it was written, by whoever reads it; the file is not too long, and always the same; one that does not is told. -/
import Derived.Test.YtlgoohhfpmomhaaM22
import Derived.Test.YtlgoohhfpmomhaaRows
namespace Go.Proofs.Ytlgoohhfpmomhaa.gifwriteBack
open Go.ChangeShapes Go.WideShapes Go.ChangeAt Go.RowKit
set_option linter.unusedVariables false

theorem own : ownKnob Try.prog.godebug = none := by kernel_rfl
theorem laidOut : laidOutB Try.prog = true := by kernel_rfl
set_option maxRecDepth 100000 in
theorem lifted (os : Os) (started : os.Started) (H : Type) (enc : TypeId × Value → H) :
    ReturnsInHanded {} Try.checked os 5 .any (Rows.gifwriteBackSpec.pre6 enc Try.prog Try.f5 Rows.gifwriteBackRow.domain false) (Rows.gifwriteBackSpec.post enc Try.prog Try.f5 false true false false) := by
  refine law_returns (C := Try.checked) (tb := 4) own started (by kernel_rfl) Try.func5 laidOut Try.underlying4 rfl rfl ?_ ?_
    (ChangeSpec.witness6 (enc := enc) (C := Try.checked) false ⟨#[], #[.agg #[.int .i64 0, .int .i64 0, .slice none 0 0]], []⟩ 8 (by kernel_rfl) (by kernel_rfl) (by kernel_rfl) (by kernel_rfl)) ?_
  · intro t ht
    have ht2 : t = 27 := by first | simpa [Try.params5] using ht | (simp [Try.params5] at ht; rcases ht with h <;> simp [h])
    subst ht2
    exact ⟨by kernel_rfl, of_decide_eq_true (by kernel_rfl)⟩
  · intro ds hd
    match ds, hd with
    | [d0], _ => rfl
  · intro W base args ds p hval hA hfz hreach
    have hA2 : DataW.TrodAll enc Try.prog W 0 (fun _ => true) true Try.f5.params.toList args.toList ds p := hA
    have hval2 : ∀ (j : Nat) t v, Try.f5.params[j]? = some t → args[j]? = some v → Value.okWide Try.prog W .any base t v := hval
    rw [Try.params5] at hA2 hval2
    obtain ⟨v0, vs0, d0, ds0, p0, q0, hargs, rfl, rfl, h0, r0⟩ := trodAll_cons hA2
    obtain ⟨rfl, rfl, rfl⟩ := trodAll_nil r0
    obtain rfl : args = #[v0] := by cases args; simp_all
    obtain ⟨a, b, A, n, cap, c, rfl, ha, hb, hn, hmax, hz, hP, hc⟩ := open_ras (hval2 0 27 v0 rfl rfl) h0
    exact gback_walk a b A n cap c hc ha hb hn hmax hz W hP

theorem over : Rows.gifwriteBackRow.holds Try.pinned (OpenSpec.ofChange Rows.gifwriteBackSpec) :=
  OpenClaim.holds_of_wide 5 Try.f5 rfl rfl rfl rfl rfl rfl rfl ⟨rfl, rfl, rfl, rfl, rfl⟩ rfl rfl rfl rfl rfl (by kernel_rfl) Try.func5 (by kernel_rfl)
    (of_decide_eq_true (by kernel_rfl)) (by unfold Func.isWrapper; first | (rw [if_pos (by decide +kernel)]; kernel_rfl) | (rw [if_neg (by decide +kernel)]; exact ⟨rfl, rfl⟩))
    (fun os started H enc _ => lifted os started H enc)

theorem proved : Rows.GifwriteBackSaid :=
  over
#print axioms proved
end Go.Proofs.Ytlgoohhfpmomhaa.gifwriteBack
