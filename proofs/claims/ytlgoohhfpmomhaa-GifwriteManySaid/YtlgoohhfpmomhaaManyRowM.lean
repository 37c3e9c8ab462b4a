/- GifwriteMany: pictures of any sides of as many colours as may be, in no order, some clear: read as they were written, not too long. -/
import Derived.Test.YtlgoohhfpmomhaaM18
import Derived.Test.YtlgoohhfpmomhaaRows
namespace Go.Proofs.Ytlgoohhfpmomhaa.gifwriteMany
open Go.ChangeShapes Go.WideShapes Go.ChangeAt Go.RowKit
set_option linter.unusedVariables false

theorem own : ownKnob Try.prog.godebug = none := by kernel_rfl
theorem laidOut : laidOutB Try.prog = true := by kernel_rfl
set_option maxRecDepth 100000 in
theorem lifted (os : Os) (started : os.Started) (H : Type) (enc : TypeId × Value → H) :
    ReturnsInHanded {} Try.checked os 3 .any (Rows.gifwriteManySpec.pre6 enc Try.prog Try.f3 Rows.gifwriteManyRow.domain false) (Rows.gifwriteManySpec.post enc Try.prog Try.f3 false true false false) := by
  refine law_returns (C := Try.checked) (tb := 4) own started (by kernel_rfl) Try.func3 laidOut Try.underlying4 rfl rfl ?_ ?_
    (ChangeSpec.witness6 (enc := enc) (C := Try.checked) false ⟨#[], #[.agg #[.int .u8 0, .int .u8 0, .int .u8 0], .int .u32 0], []⟩ 8 (by kernel_rfl) (by kernel_rfl) (by kernel_rfl) (by kernel_rfl)) ?_
  · intro t ht
    have ht2 : t = 22 ∨ t = 23 := by first | simpa [Try.params3] using ht | (simp [Try.params3] at ht; rcases ht with h | h <;> simp [h])
    rcases ht2 with rfl | rfl
    · exact ⟨by kernel_rfl, of_decide_eq_true (by kernel_rfl)⟩
    · exact ⟨by kernel_rfl, of_decide_eq_true (by kernel_rfl)⟩
  · intro ds hd
    match ds, hd with
    | [d0, d1], _ => rfl
  · intro W base args ds p hval hA hfz hreach
    have hA2 : DataW.TrodAll enc Try.prog W 0 (fun _ => true) true Try.f3.params.toList args.toList ds p := hA
    have hval2 : ∀ (j : Nat) t v, Try.f3.params[j]? = some t → args[j]? = some v → Value.okWide Try.prog W .any base t v := hval
    rw [Try.params3] at hA2 hval2
    obtain ⟨v0, vs0, d0, ds0, p0, q0, hargs, rfl, rfl, h0, r0⟩ := trodAll_cons hA2
    obtain ⟨v1, vs1, d1, ds1, p1, q1, rfl, rfl, rfl, h1, r1⟩ := trodAll_cons r0
    obtain ⟨rfl, rfl, rfl⟩ := trodAll_nil r1
    obtain rfl : args = #[v0, v1] := by cases args; simp_all
    obtain ⟨n0, n1, n2, rfl, q0, q1, q2⟩ := open_t3 (hval2 0 22 v0 rfl rfl) h0
    obtain ⟨s, rfl, _, _, w1⟩ := open_int Try.underlying23 (hval2 1 23 v1 rfl rfl) h1
    have b1 : 0 ≤ s ∧ s ≤ 4294967295 := by simpa [Lit.wf, IntKind.min, IntKind.max, IntKind.signed, IntKind.bits] using w1
    obtain ⟨s, rfl⟩ := Int.eq_ofNat_of_zero_le b1.1
    exact gmany_walk n0 n1 n2 s q0 q1 q2 (by omega) W

theorem over : Rows.gifwriteManyRow.holds Try.pinned (OpenSpec.ofChange Rows.gifwriteManySpec) :=
  OpenClaim.holds_of_wide 3 Try.f3 rfl rfl rfl rfl rfl rfl rfl ⟨rfl, rfl, rfl, rfl, rfl⟩ rfl rfl rfl rfl rfl (by kernel_rfl) Try.func3 (by kernel_rfl)
    (of_decide_eq_true (by kernel_rfl)) (by unfold Func.isWrapper; first | (rw [if_pos (by decide +kernel)]; kernel_rfl) | (rw [if_neg (by decide +kernel)]; exact ⟨rfl, rfl⟩))
    (fun os started H enc _ => lifted os started H enc)

theorem proved : Rows.GifwriteManySaid :=
  over
#print axioms proved
end Go.Proofs.Ytlgoohhfpmomhaa.gifwriteMany
