/- PaletteDraws: any colours, any places: the picture, or why there is none, as the reference has it. -/
import Derived.Test.YtnjlklcggcfcgaaRows
import Derived.Test.YtnjlklcggcfcgaaLift
import Derived.Test.YtnjlklcggcfcgaaDraws
namespace Go.Proofs.Ytnjlklcggcfcgaa.paletteDraws
open Go.ChangeShapes Go.WideShapes Go.ChangeAt Go.RowKit
set_option linter.unusedVariables false

theorem own : ownKnob Try.prog.godebug = none := by kernel_rfl
theorem laidOut : laidOutB Try.prog = true := by kernel_rfl
set_option maxRecDepth 100000 in
theorem lifted (os : Os) (started : os.Started) (H : Type) (enc : TypeId × Value → H) :
    ReturnsInHanded {} Try.checked os 4 .any (Rows.paletteDrawsSpec.pre6 enc Try.prog Try.f4 Rows.paletteDrawsRow.domain false) (Rows.paletteDrawsSpec.post enc Try.prog Try.f4 false true false false) := by
  refine law_returns (C := Try.checked) (tb := 4) own started (by kernel_rfl) Try.func4 laidOut Try.underlying4 rfl rfl ?_ ?_
    (ChangeSpec.witness6 (enc := enc) (C := Try.checked) false ⟨#[], #[.slice none 0 0, .agg #[.int .i64 0, .int .i64 0], .slice none 0 0], []⟩ 8 (by kernel_rfl) (by kernel_rfl) (by kernel_rfl) (by kernel_rfl)) ?_
  · intro t ht
    have ht2 : t = 26 ∨ t = 38 ∨ t = 29 := by simpa [Try.params4] using ht
    rcases ht2 with rfl | rfl | rfl
    · exact ⟨by kernel_rfl, of_decide_eq_true (by kernel_rfl)⟩
    · exact ⟨by kernel_rfl, of_decide_eq_true (by kernel_rfl)⟩
    · exact ⟨by kernel_rfl, of_decide_eq_true (by kernel_rfl)⟩
  · intro ds hd
    match ds, hd with
    | [d0, d1, d2], _ => rfl
  · intro W base args ds p hval hA hfz hreach
    have hA2 : DataW.TrodAll enc Try.prog W 0 (fun _ => true) true Try.f4.params.toList args.toList ds p := hA
    have hval2 : ∀ (j : Nat) t v, Try.f4.params[j]? = some t → args[j]? = some v → Value.okWide Try.prog W .any base t v := hval
    rw [Try.params4] at hA2 hval2
    obtain ⟨v0, vs0, d0, ds0, p0, q0, hargs, rfl, rfl, h0, r0⟩ := trodAll_cons hA2
    obtain ⟨v1, vs1, d1, ds1, p1, q1, rfl, rfl, rfl, h1, r1⟩ := trodAll_cons r0
    obtain ⟨v2, vs2, d2, ds2, p2, q2, rfl, rfl, rfl, h2, r2⟩ := trodAll_cons r1
    obtain ⟨rfl, rfl, rfl⟩ := trodAll_nil r2
    obtain rfl : args = #[v0, v1, v2] := by cases args; simp_all
    obtain ⟨L, A, cap, rfl, hl1, hl2, hS, hL4⟩ := open_cols (hval2 0 26 v0 rfl rfl) h0
    obtain ⟨x, y, rfl, hx, hy⟩ := open_i2 (hval2 1 38 v1 rfl rfl) h1
    obtain ⟨AI, m, capI, d, rfl, hm1, hm2, hI, hd⟩ := open_bytes (hval2 2 29 v2 rfl rfl) h2
    exact draws_walk A cap L hL4 hl1 hl2 x y hx hy AI m capI d hd hm1 hm2 W hS hI

theorem over : Rows.paletteDrawsRow.holds Try.pinned (OpenSpec.ofChange Rows.paletteDrawsSpec) :=
  OpenClaim.holds_of_wide 4 Try.f4 rfl rfl rfl rfl rfl rfl rfl ⟨rfl, rfl, rfl, rfl, rfl⟩ rfl rfl rfl rfl rfl (by kernel_rfl) Try.func4 (by kernel_rfl)
    (of_decide_eq_true (by kernel_rfl)) (by unfold Func.isWrapper; first | (rw [if_pos (by decide +kernel)]; kernel_rfl) | (rw [if_neg (by decide +kernel)]; exact ⟨rfl, rfl⟩))
    (fun os started H enc _ => lifted os started H enc)

theorem proved : Rows.PaletteDrawsSaid :=
  over
#print axioms proved
end Go.Proofs.Ytnjlklcggcfcgaa.paletteDraws
