/- BitsLow: any bytes, read from the lowest bit on in any pieces: each number, what is left; what is not there panics, and reads nothing: as the reference has it. -/
import Derived.Test.YthcijcdeecmnmaaRows
import Derived.Test.YthcijcdeecmnmaaLift
import Derived.Test.YthcijcdeecmnmaaLow
import Derived.Test.YthcijcdeecmnmaaOpD
namespace Go.Proofs.Ythcijcdeecmnmaa.bitsLow
open Go.ChangeShapes Go.WideShapes Go.ChangeAt Go.RowKit
set_option linter.unusedVariables false

theorem own : ownKnob Try.prog.godebug = none := by kernel_rfl
theorem laidOut : laidOutB Try.prog = true := by kernel_rfl
set_option maxRecDepth 100000 in
theorem lifted (os : Os) (started : os.Started) (H : Type) (enc : TypeId × Value → H) :
    ReturnsInHanded {} Try.checked os 4 .any (Rows.bitsLowSpec.pre6 enc Try.prog Try.f4 Rows.bitsLowRow.domain false) (Rows.bitsLowSpec.post enc Try.prog Try.f4 false true false false) := by
  refine law_returns (C := Try.checked) (tb := 4) own started (by kernel_rfl) Try.func4 laidOut Try.underlying4 rfl rfl ?_ ?_
    (ChangeSpec.witness6 (enc := enc) (C := Try.checked) false ⟨#[], #[.slice none 0 0, .slice none 0 0], []⟩ 8 (by kernel_rfl) (by kernel_rfl) (by kernel_rfl) (by kernel_rfl)) ?_
  · intro t ht
    have ht2 : t = 22 ∨ t = 36 := by simpa [Try.params4] using ht
    rcases ht2 with rfl | rfl
    · exact ⟨by kernel_rfl, of_decide_eq_true (by kernel_rfl)⟩
    · exact ⟨by kernel_rfl, of_decide_eq_true (by kernel_rfl)⟩
  · intro ds hd
    match ds, hd with
    | [d0, d1], _ => rfl
  · intro W base args ds p hval hA hfz hreach
    have hA2 : DataW.TrodAll enc Try.prog W 0 (fun _ => true) true Try.f4.params.toList args.toList ds p := hA
    have hval2 : ∀ (j : Nat) t v, Try.f4.params[j]? = some t → args[j]? = some v → Value.okWide Try.prog W .any base t v := hval
    rw [Try.params4] at hA2 hval2
    obtain ⟨v0, vs0, d0, ds0, p0, q0, hargs, rfl, rfl, h0, r0⟩ := trodAll_cons hA2
    obtain ⟨v1, vs1, d1, ds1, p1, q1, rfl, rfl, rfl, h1, r1⟩ := trodAll_cons r0
    obtain ⟨rfl, rfl, rfl⟩ := trodAll_nil r1
    obtain rfl : args = #[v0, v1] := by cases args; simp_all
    obtain ⟨A, n, cap, b, rfl, hb1, hb2, hb3, hB, hb⟩ := open_bytes (hval2 0 22 v0 rfl rfl) h0
    obtain ⟨AL, m, capL, d, f, rfl, hm1, hm2, hL, hd, hf⟩ := open_deeds (hval2 1 36 v1 rfl rfl) h1
    exact bits_low A n cap b hb hb1 hb2 hb3 AL m capL d f hd hf hm1 hm2 W hB hL

theorem over : Rows.bitsLowRow.holds Try.pinned (OpenSpec.ofChange Rows.bitsLowSpec) :=
  OpenClaim.holds_of_wide 4 Try.f4 rfl rfl rfl rfl rfl rfl rfl ⟨rfl, rfl, rfl, rfl, rfl⟩ rfl rfl rfl rfl rfl (by kernel_rfl) Try.func4 (by kernel_rfl)
    (of_decide_eq_true (by kernel_rfl)) (by unfold Func.isWrapper; first | (rw [if_pos (by decide +kernel)]; kernel_rfl) | (rw [if_neg (by decide +kernel)]; exact ⟨rfl, rfl⟩))
    (fun os started H enc _ => lifted os started H enc)

theorem proved : Rows.BitsLowSaid :=
  over
#print axioms proved
end Go.Proofs.Ythcijcdeecmnmaa.bitsLow
