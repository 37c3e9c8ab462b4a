/- GifreadFrames: a frame anywhere on its screen, laced or not, with a table of its own or not: its pixels where it stands, all else clear. -/
import Derived.Test.YtkjlejkcedemlaaM23
import Derived.Test.YtkjlejkcedemlaaRows
namespace Go.Proofs.Ytkjlejkcedemlaa.gifreadFrames
open Go.ChangeShapes Go.WideShapes Go.ChangeAt Go.RowKit
set_option linter.unusedVariables false

theorem own : ownKnob Try.prog.godebug = none := by kernel_rfl
theorem laidOut : laidOutB Try.prog = true := by kernel_rfl
set_option maxRecDepth 100000 in
theorem lifted (os : Os) (started : os.Started) (H : Type) (enc : TypeId × Value → H) :
    ReturnsInHanded {} Try.checked os 6 .any (Rows.gifreadFramesSpec.pre6 enc Try.prog Try.f6 Rows.gifreadFramesRow.domain false) (Rows.gifreadFramesSpec.post enc Try.prog Try.f6 false true false false) := by
  refine law_returns (C := Try.checked) (tb := 4) own started (by kernel_rfl) Try.func6 laidOut Try.underlying4 rfl rfl ?_ ?_
    (ChangeSpec.witness6 (enc := enc) (C := Try.checked) false ⟨#[], #[.agg #[.int .u8 0, .int .u8 0, .int .u8 0, .int .u8 0, .int .u8 0, .int .u8 0, .int .u8 0, .int .u8 0], .slice none 0 0], []⟩ 8 (by kernel_rfl) (by kernel_rfl) (by kernel_rfl) (by kernel_rfl)) ?_
  · intro t ht
    have ht2 : t = 41 ∨ t = 22 := by first | simpa [Try.params6] using ht | (simp [Try.params6] at ht; rcases ht with h | h <;> simp [h])
    rcases ht2 with rfl | rfl
    · exact ⟨by kernel_rfl, of_decide_eq_true (by kernel_rfl)⟩
    · exact ⟨by kernel_rfl, of_decide_eq_true (by kernel_rfl)⟩
  · intro ds hd
    match ds, hd with
    | [d0, d1], _ => rfl
  · intro W base args ds p hval hA hfz hreach
    have hA2 : DataW.TrodAll enc Try.prog W 0 (fun _ => true) true Try.f6.params.toList args.toList ds p := hA
    have hval2 : ∀ (j : Nat) t v, Try.f6.params[j]? = some t → args[j]? = some v → Value.okWide Try.prog W .any base t v := hval
    rw [Try.params6] at hA2 hval2
    obtain ⟨v0, vs0, d0, ds0, p0, q0, hargs, rfl, rfl, h0, r0⟩ := trodAll_cons hA2
    obtain ⟨v1, vs1, d1, ds1, p1, q1, rfl, rfl, rfl, h1, r1⟩ := trodAll_cons r0
    obtain ⟨rfl, rfl, rfl⟩ := trodAll_nil r1
    obtain rfl : args = #[v0, v1] := by cases args; simp_all
    obtain ⟨n0, n1, n2, n3, n4, n5, n6, n7, rfl, q0, q1, q2, q3, q4, q5, q6, q7⟩ := open_t8 (hval2 0 41 v0 rfl rfl) h0
    obtain ⟨A, n, cap, b, rfl, hb1, hb2, hb3, hB, hb⟩ := open_bytes (hval2 1 22 v1 rfl rfl) h1
    exact gframes_walk n0 n1 n2 n3 n4 n5 n6 n7 q0 q1 q2 q3 q4 q5 q6 q7 A n cap b hb hb1 hb2 hb3 W hB

theorem over : Rows.gifreadFramesRow.holds Try.pinned (OpenSpec.ofChange Rows.gifreadFramesSpec) :=
  OpenClaim.holds_of_wide 6 Try.f6 rfl rfl rfl rfl rfl rfl rfl ⟨rfl, rfl, rfl, rfl, rfl⟩ rfl rfl rfl rfl rfl (by kernel_rfl) Try.func6 (by kernel_rfl)
    (of_decide_eq_true (by kernel_rfl)) (by unfold Func.isWrapper; first | (rw [if_pos (by decide +kernel)]; kernel_rfl) | (rw [if_neg (by decide +kernel)]; exact ⟨rfl, rfl⟩))
    (fun os started H enc _ => lifted os started H enc)

theorem proved : Rows.GifreadFramesSaid :=
  over
#print axioms proved
end Go.Proofs.Ytkjlejkcedemlaa.gifreadFrames
