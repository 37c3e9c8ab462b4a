/- GifreadPlain: any picture that has a palette, written in the plainest way, is read as it is; what is behind the first frame is not looked at. -/
import Derived.Test.YtkjlejkcedemlaaM21
import Derived.Test.YtkjlejkcedemlaaRows
namespace Go.Proofs.Ytkjlejkcedemlaa.gifreadPlain
open Go.ChangeShapes Go.WideShapes Go.ChangeAt Go.RowKit
set_option linter.unusedVariables false

theorem own : ownKnob Try.prog.godebug = none := by kernel_rfl
theorem laidOut : laidOutB Try.prog = true := by kernel_rfl
set_option maxRecDepth 100000 in
theorem lifted (os : Os) (started : os.Started) (H : Type) (enc : TypeId × Value → H) :
    ReturnsInHanded {} Try.checked os 5 .any (Rows.gifreadPlainSpec.pre6 enc Try.prog Try.f5 Rows.gifreadPlainRow.domain false) (Rows.gifreadPlainSpec.post enc Try.prog Try.f5 false true false false) := by
  refine law_returns (C := Try.checked) (tb := 4) own started (by kernel_rfl) Try.func5 laidOut Try.underlying4 rfl rfl ?_ ?_
    (ChangeSpec.witness6 (enc := enc) (C := Try.checked) false ⟨#[], #[.agg #[.int .i64 0, .int .i64 0, .slice none 0 0], .slice none 0 0], []⟩ 8 (by kernel_rfl) (by kernel_rfl) (by kernel_rfl) (by kernel_rfl)) ?_
  · intro t ht
    have ht2 : t = 26 ∨ t = 22 := by first | simpa [Try.params5] using ht | (simp [Try.params5] at ht; rcases ht with h | h <;> simp [h])
    rcases ht2 with rfl | rfl
    · exact ⟨by kernel_rfl, of_decide_eq_true (by kernel_rfl)⟩
    · exact ⟨by kernel_rfl, of_decide_eq_true (by kernel_rfl)⟩
  · intro ds hd
    match ds, hd with
    | [d0, d1], _ => rfl
  · intro W base args ds p hval hA hfz hreach
    have hA2 : DataW.TrodAll enc Try.prog W 0 (fun _ => true) true Try.f5.params.toList args.toList ds p := hA
    have hval2 : ∀ (j : Nat) t v, Try.f5.params[j]? = some t → args[j]? = some v → Value.okWide Try.prog W .any base t v := hval
    rw [Try.params5] at hA2 hval2
    obtain ⟨v0, vs0, d0, ds0, p0, q0, hargs, rfl, rfl, h0, r0⟩ := trodAll_cons hA2
    obtain ⟨v1, vs1, d1, ds1, p1, q1, rfl, rfl, rfl, h1, r1⟩ := trodAll_cons r0
    obtain ⟨rfl, rfl, rfl⟩ := trodAll_nil r1
    obtain rfl : args = #[v0, v1] := by cases args; simp_all
    obtain ⟨a, b, A, n, cap, c, rfl, ha, hb, hn, hmax, hz, hP, hc⟩ := open_ras (hval2 0 26 v0 rfl rfl) h0
    obtain ⟨At, nt, capt, bt, rfl, hb1t, hb2t, hb3t, hBt, hbt⟩ := open_bytes (hval2 1 22 v1 rfl rfl) h1
    exact gplain_walk a b A n cap c hc ha hb hn hmax At nt capt bt hbt hb1t hb2t hb3t W hP hBt

theorem over : Rows.gifreadPlainRow.holds Try.pinned (OpenSpec.ofChange Rows.gifreadPlainSpec) :=
  OpenClaim.holds_of_wide 5 Try.f5 rfl rfl rfl rfl rfl rfl rfl ⟨rfl, rfl, rfl, rfl, rfl⟩ rfl rfl rfl rfl rfl (by kernel_rfl) Try.func5 (by kernel_rfl)
    (of_decide_eq_true (by kernel_rfl)) (by unfold Func.isWrapper; first | (rw [if_pos (by decide +kernel)]; kernel_rfl) | (rw [if_neg (by decide +kernel)]; exact ⟨rfl, rfl⟩))
    (fun os started H enc _ => lifted os started H enc)

theorem proved : Rows.GifreadPlainSaid :=
  over
#print axioms proved
end Go.Proofs.Ytkjlejkcedemlaa.gifreadPlain
