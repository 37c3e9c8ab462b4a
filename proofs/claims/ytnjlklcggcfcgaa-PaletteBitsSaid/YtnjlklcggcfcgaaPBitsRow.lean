/- PaletteBits: so many bits as hold a number of colours, and no more. -/
import Derived.Test.YtnjlklcggcfcgaaRows
import Derived.Test.YtnjlklcggcfcgaaLift
import Derived.Test.YtnjlklcggcfcgaaPBits
namespace Go.Proofs.Ytnjlklcggcfcgaa.paletteBits
open Go.ChangeShapes Go.WideShapes Go.ChangeAt Go.RowKit
set_option linter.unusedVariables false

theorem own : ownKnob Try.prog.godebug = none := by kernel_rfl
theorem laidOut : laidOutB Try.prog = true := by kernel_rfl
set_option maxRecDepth 100000 in
theorem lifted (os : Os) (started : os.Started) (H : Type) (enc : TypeId × Value → H) :
    ReturnsInHanded {} Try.checked os 7 .any (Rows.paletteBitsSpec.pre6 enc Try.prog Try.f7 Rows.paletteBitsRow.domain false) (Rows.paletteBitsSpec.post enc Try.prog Try.f7 false true false false) := by
  refine law_returns (C := Try.checked) (tb := 4) own started (by kernel_rfl) Try.func7 laidOut Try.underlying4 rfl rfl ?_ ?_
    (ChangeSpec.witness6 (enc := enc) (C := Try.checked) false ⟨#[], #[.int .u16 0], []⟩ 8 (by kernel_rfl) (by kernel_rfl) (by kernel_rfl) (by kernel_rfl)) ?_
  · intro t ht
    have ht2 : t = 46 := by simpa [Try.params7] using ht
    subst ht2
    exact ⟨by kernel_rfl, of_decide_eq_true (by kernel_rfl)⟩
  · intro ds hd
    match ds, hd with
    | [d0], _ => rfl
  · intro W base args ds p hval hA hfz hreach
    have hA2 : DataW.TrodAll enc Try.prog W 0 (fun _ => true) true Try.f7.params.toList args.toList ds p := hA
    have hval2 : ∀ (j : Nat) t v, Try.f7.params[j]? = some t → args[j]? = some v → Value.okWide Try.prog W .any base t v := hval
    rw [Try.params7] at hA2 hval2
    obtain ⟨v0, vs0, d0, ds0, p0, q0, hargs, rfl, rfl, h0, r0⟩ := trodAll_cons hA2
    obtain ⟨rfl, rfl, rfl⟩ := trodAll_nil r0
    obtain rfl : args = #[v0] := by cases args; simp_all
    obtain ⟨n, rfl, _, _, w0⟩ := open_int Try.underlying46 (hval2 0 46 v0 rfl rfl) h0
    have b0 : 0 ≤ n ∧ n ≤ 65535 := by simpa [Lit.wf, IntKind.min, IntKind.max, IntKind.signed, IntKind.bits] using w0
    obtain ⟨n, rfl⟩ := Int.eq_ofNat_of_zero_le b0.1
    exact pbits_walk n (by omega) W

theorem over : Rows.paletteBitsRow.holds Try.pinned (OpenSpec.ofChange Rows.paletteBitsSpec) :=
  OpenClaim.holds_of_wide 7 Try.f7 rfl rfl rfl rfl rfl rfl rfl ⟨rfl, rfl, rfl, rfl, rfl⟩ rfl rfl rfl rfl rfl (by kernel_rfl) Try.func7 (by kernel_rfl)
    (of_decide_eq_true (by kernel_rfl)) (by unfold Func.isWrapper; first | (rw [if_pos (by decide +kernel)]; kernel_rfl) | (rw [if_neg (by decide +kernel)]; exact ⟨rfl, rfl⟩))
    (fun os started H enc _ => lifted os started H enc)

theorem proved : Rows.PaletteBitsSaid :=
  over
#print axioms proved
end Go.Proofs.Ytnjlklcggcfcgaa.paletteBits
