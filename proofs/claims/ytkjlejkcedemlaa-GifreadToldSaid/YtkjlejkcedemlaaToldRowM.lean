/- GifreadTold: a plain file cut anywhere is too short; with a screen of nothing, or another beginning, it is told so. -/
import Derived.Test.YtkjlejkcedemlaaM21
import Derived.Test.YtkjlejkcedemlaaRows
namespace Go.Proofs.Ytkjlejkcedemlaa.gifreadTold
open Go.ChangeShapes Go.WideShapes Go.ChangeAt Go.RowKit
set_option linter.unusedVariables false

theorem own : ownKnob Try.prog.godebug = none := by kernel_rfl
theorem laidOut : laidOutB Try.prog = true := by kernel_rfl
set_option maxRecDepth 100000 in
theorem lifted (os : Os) (started : os.Started) (H : Type) (enc : TypeId × Value → H) :
    ReturnsInHanded {} Try.checked os 7 .any (Rows.gifreadToldSpec.pre6 enc Try.prog Try.f7 Rows.gifreadToldRow.domain false) (Rows.gifreadToldSpec.post enc Try.prog Try.f7 false true false false) := by
  refine law_returns (C := Try.checked) (tb := 4) own started (by kernel_rfl) Try.func7 laidOut Try.underlying4 rfl rfl ?_ ?_
    (ChangeSpec.witness6 (enc := enc) (C := Try.checked) false ⟨#[], #[.agg #[.int .i64 0, .int .i64 0, .slice none 0 0], .int .u16 0, .int .u8 0], []⟩ 8 (by kernel_rfl) (by kernel_rfl) (by kernel_rfl) (by kernel_rfl)) ?_
  · intro t ht
    have ht2 : t = 26 ∨ t = 46 ∨ t = 5 := by first | simpa [Try.params7] using ht | (simp [Try.params7] at ht; rcases ht with h | h | h <;> simp [h])
    rcases ht2 with rfl | rfl | rfl
    · exact ⟨by kernel_rfl, of_decide_eq_true (by kernel_rfl)⟩
    · exact ⟨by kernel_rfl, of_decide_eq_true (by kernel_rfl)⟩
    · exact ⟨by kernel_rfl, of_decide_eq_true (by kernel_rfl)⟩
  · intro ds hd
    match ds, hd with
    | [d0, d1, d2], _ => rfl
  · intro W base args ds p hval hA hfz hreach
    have hA2 : DataW.TrodAll enc Try.prog W 0 (fun _ => true) true Try.f7.params.toList args.toList ds p := hA
    have hval2 : ∀ (j : Nat) t v, Try.f7.params[j]? = some t → args[j]? = some v → Value.okWide Try.prog W .any base t v := hval
    rw [Try.params7] at hA2 hval2
    obtain ⟨v0, vs0, d0, ds0, p0, q0, hargs, rfl, rfl, h0, r0⟩ := trodAll_cons hA2
    obtain ⟨v1, vs1, d1, ds1, p1, q1, rfl, rfl, rfl, h1, r1⟩ := trodAll_cons r0
    obtain ⟨v2, vs2, d2, ds2, p2, q2, rfl, rfl, rfl, h2, r2⟩ := trodAll_cons r1
    obtain ⟨rfl, rfl, rfl⟩ := trodAll_nil r2
    obtain rfl : args = #[v0, v1, v2] := by cases args; simp_all
    obtain ⟨a, b, A, n, cap, c, rfl, ha, hb, hn, hmax, hz, hP, hc⟩ := open_ras (hval2 0 26 v0 rfl rfl) h0
    obtain ⟨t, rfl, _, _, w1⟩ := open_int Try.underlying46 (hval2 1 46 v1 rfl rfl) h1
    have b1 : 0 ≤ t ∧ t ≤ 65535 := by simpa [Lit.wf, IntKind.min, IntKind.max, IntKind.signed, IntKind.bits] using w1
    obtain ⟨k, rfl, _, _, w2⟩ := open_int Try.underlying5 (hval2 2 5 v2 rfl rfl) h2
    have b2 : 0 ≤ k ∧ k ≤ 255 := by simpa [Lit.wf, IntKind.min, IntKind.max, IntKind.signed, IntKind.bits] using w2
    obtain ⟨t, rfl⟩ := Int.eq_ofNat_of_zero_le b1.1
    obtain ⟨k, rfl⟩ := Int.eq_ofNat_of_zero_le b2.1
    exact gtold16_walk a b A n cap c hc ha hb hn hmax t k (by omega) (by omega) W hP

theorem over : Rows.gifreadToldRow.holds Try.pinned (OpenSpec.ofChange Rows.gifreadToldSpec) :=
  OpenClaim.holds_of_wide 7 Try.f7 rfl rfl rfl rfl rfl rfl rfl ⟨rfl, rfl, rfl, rfl, rfl⟩ rfl rfl rfl rfl rfl (by kernel_rfl) Try.func7 (by kernel_rfl)
    (of_decide_eq_true (by kernel_rfl)) (by unfold Func.isWrapper; first | (rw [if_pos (by decide +kernel)]; kernel_rfl) | (rw [if_neg (by decide +kernel)]; exact ⟨rfl, rfl⟩))
    (fun os started H enc _ => lifted os started H enc)

theorem proved : Rows.GifreadToldSaid :=
  over
#print axioms proved
end Go.Proofs.Ytkjlejkcedemlaa.gifreadTold
