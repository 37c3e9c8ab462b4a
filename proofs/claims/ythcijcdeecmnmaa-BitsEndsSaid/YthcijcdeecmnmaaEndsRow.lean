/- BitsEnds: the bits of a byte from either end are the same, the other way round; many at once are as one by one. -/
import Derived.Test.YthcijcdeecmnmaaRows
import Derived.Test.YthcijcdeecmnmaaLift
import Derived.Test.YthcijcdeecmnmaaEndsW
import Derived.Test.YthcijcdeecmnmaaOpB
namespace Go.Proofs.Ythcijcdeecmnmaa.bitsEnds
open Go.ChangeShapes Go.WideShapes Go.ChangeAt Go.RowKit
set_option linter.unusedVariables false

theorem own : ownKnob Try.prog.godebug = none := by kernel_rfl
theorem laidOut : laidOutB Try.prog = true := by kernel_rfl
set_option maxRecDepth 100000 in
theorem lifted (os : Os) (started : os.Started) (H : Type) (enc : TypeId × Value → H) :
    ReturnsInHanded {} Try.checked os 7 .any (Rows.bitsEndsSpec.pre6 enc Try.prog Try.f7 Rows.bitsEndsRow.domain false) (Rows.bitsEndsSpec.post enc Try.prog Try.f7 false true false false) := by
  refine law_returns (C := Try.checked) (tb := 4) own started (by kernel_rfl) Try.func7 laidOut Try.underlying4 rfl rfl ?_ ?_
    (ChangeSpec.witness6 (enc := enc) (C := Try.checked) false ⟨#[], #[.slice none 0 0, .int .u8 0], []⟩ 8 (by kernel_rfl) (by kernel_rfl) (by kernel_rfl) (by kernel_rfl)) ?_
  · intro t ht
    have ht2 : t = 22 ∨ t = 5 := by simpa [Try.params7] using ht
    rcases ht2 with rfl | rfl
    · exact ⟨by kernel_rfl, of_decide_eq_true (by kernel_rfl)⟩
    · exact ⟨by kernel_rfl, of_decide_eq_true (by kernel_rfl)⟩
  · intro ds hd
    match ds, hd with
    | [d0, d1], _ => rfl
  · intro W base args ds p hval hA hfz hreach
    have hA2 : DataW.TrodAll enc Try.prog W 0 (fun _ => true) true Try.f7.params.toList args.toList ds p := hA
    have hval2 : ∀ (j : Nat) t v, Try.f7.params[j]? = some t → args[j]? = some v → Value.okWide Try.prog W .any base t v := hval
    rw [Try.params7] at hA2 hval2
    obtain ⟨v0, vs0, d0, ds0, p0, q0, hargs, rfl, rfl, h0, r0⟩ := trodAll_cons hA2
    obtain ⟨v1, vs1, d1, ds1, p1, q1, rfl, rfl, rfl, h1, r1⟩ := trodAll_cons r0
    obtain ⟨rfl, rfl, rfl⟩ := trodAll_nil r1
    obtain rfl : args = #[v0, v1] := by cases args; simp_all
    obtain ⟨A, n, cap, b, rfl, hb1, hb2, hb3, hB, hb⟩ := open_bytes (hval2 0 22 v0 rfl rfl) h0
    obtain ⟨t, rfl, _, _, w1⟩ := open_int Try.underlying5 (hval2 1 5 v1 rfl rfl) h1
    have b1 : 0 ≤ t ∧ t ≤ 255 := by simpa [Lit.wf, IntKind.min, IntKind.max, IntKind.signed, IntKind.bits] using w1
    obtain ⟨t, rfl⟩ := Int.eq_ofNat_of_zero_le b1.1
    exact ends_walk A n cap b hb hb1 hb2 hb3 t (by omega) W hB

theorem over : Rows.bitsEndsRow.holds Try.pinned (OpenSpec.ofChange Rows.bitsEndsSpec) :=
  OpenClaim.holds_of_wide 7 Try.f7 rfl rfl rfl rfl rfl rfl rfl ⟨rfl, rfl, rfl, rfl, rfl⟩ rfl rfl rfl rfl rfl (by kernel_rfl) Try.func7 (by kernel_rfl)
    (of_decide_eq_true (by kernel_rfl)) (by unfold Func.isWrapper; first | (rw [if_pos (by decide +kernel)]; kernel_rfl) | (rw [if_neg (by decide +kernel)]; exact ⟨rfl, rfl⟩))
    (fun os started H enc _ => lifted os started H enc)

theorem proved : Rows.BitsEndsSaid :=
  over
#print axioms proved
end Go.Proofs.Ythcijcdeecmnmaa.bitsEnds
