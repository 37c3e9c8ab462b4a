/- LzwRuns: a row of one value: each code is the one that is just being made; the program reads those codes, and what it writes is read as that row. -/
import Derived.Test.YtioghgnngdcicaaRows
import Derived.Test.YtioghgnngdcicaaLift
import Derived.Test.YtioghgnngdcicaaLzRx
import Derived.Test.YtioghgnngdcicaaOpB
namespace Go.Proofs.Ytioghgnngdcicaa.lzwRuns
open Go.ChangeShapes Go.WideShapes Go.ChangeAt Go.RowKit
set_option linter.unusedVariables false

theorem own : ownKnob Try.prog.godebug = none := by kernel_rfl
theorem laidOut : laidOutB Try.prog = true := by kernel_rfl
set_option maxRecDepth 100000 in
theorem lifted (os : Os) (started : os.Started) (H : Type) (enc : TypeId × Value → H) :
    ReturnsInHanded {} Try.checked os 6 .any (Rows.lzwRunsSpec.pre6 enc Try.prog Try.f6 Rows.lzwRunsRow.domain false) (Rows.lzwRunsSpec.post enc Try.prog Try.f6 false true false false) := by
  refine law_returns (C := Try.checked) (tb := 4) own started (by kernel_rfl) Try.func6 laidOut Try.underlying4 rfl rfl ?_ ?_
    (ChangeSpec.witness6 (enc := enc) (C := Try.checked) false ⟨#[], #[.int .u8 0, .int .u16 0, .int .u8 0], []⟩ 8 (by kernel_rfl) (by kernel_rfl) (by kernel_rfl) (by kernel_rfl)) ?_
  · intro t ht
    have ht2 : t = 5 ∨ t = 39 := by first | simpa [Try.params6] using ht | (simp [Try.params6] at ht; rcases ht with h | h | h <;> simp [h])
    rcases ht2 with rfl | rfl
    · exact ⟨by kernel_rfl, of_decide_eq_true (by kernel_rfl)⟩
    · exact ⟨by kernel_rfl, of_decide_eq_true (by kernel_rfl)⟩
  · intro ds hd
    match ds, hd with
    | [d0, d1, d2], _ => rfl
  · intro W base args ds p hval hA hfz hreach
    have hA2 : DataW.TrodAll enc Try.prog W 0 (fun _ => true) true Try.f6.params.toList args.toList ds p := hA
    have hval2 : ∀ (j : Nat) t v, Try.f6.params[j]? = some t → args[j]? = some v → Value.okWide Try.prog W .any base t v := hval
    rw [Try.params6] at hA2 hval2
    obtain ⟨v0, vs0, d0, ds0, p0, q0, hargs, rfl, rfl, h0, r0⟩ := trodAll_cons hA2
    obtain ⟨v1, vs1, d1, ds1, p1, q1, rfl, rfl, rfl, h1, r1⟩ := trodAll_cons r0
    obtain ⟨v2, vs2, d2, ds2, p2, q2, rfl, rfl, rfl, h2, r2⟩ := trodAll_cons r1
    obtain ⟨rfl, rfl, rfl⟩ := trodAll_nil r2
    obtain rfl : args = #[v0, v1, v2] := by cases args; simp_all
    obtain ⟨vz, rfl, _, _, w0⟩ := open_int Try.underlying5 (hval2 0 5 v0 rfl rfl) h0
    have b0 : 0 ≤ vz ∧ vz ≤ 255 := by simpa [Lit.wf, IntKind.min, IntKind.max, IntKind.signed, IntKind.bits] using w0
    obtain ⟨v, rfl⟩ : ∃ k : Nat, vz = k := Int.eq_ofNat_of_zero_le (by omega)
    obtain ⟨manyz, rfl, _, _, w1⟩ := open_int Try.underlying39 (hval2 1 39 v1 rfl rfl) h1
    have b1 : 0 ≤ manyz ∧ manyz ≤ 65535 := by simpa [Lit.wf, IntKind.min, IntKind.max, IntKind.signed, IntKind.bits] using w1
    obtain ⟨many, rfl⟩ : ∃ k : Nat, manyz = k := Int.eq_ofNat_of_zero_le (by omega)
    obtain ⟨sizez, rfl, _, _, w2⟩ := open_int Try.underlying5 (hval2 2 5 v2 rfl rfl) h2
    have b2 : 0 ≤ sizez ∧ sizez ≤ 255 := by simpa [Lit.wf, IntKind.min, IntKind.max, IntKind.signed, IntKind.bits] using w2
    obtain ⟨size, rfl⟩ : ∃ k : Nat, sizez = k := Int.eq_ofNat_of_zero_le (by omega)
    exact runs_walk v many size (by omega) (by omega) (by omega) W

theorem over : Rows.lzwRunsRow.holds Try.pinned (OpenSpec.ofChange Rows.lzwRunsSpec) :=
  OpenClaim.holds_of_wide 6 Try.f6 rfl rfl rfl rfl rfl rfl rfl ⟨rfl, rfl, rfl, rfl, rfl⟩ rfl rfl rfl rfl rfl (by kernel_rfl) Try.func6 (by kernel_rfl)
    (of_decide_eq_true (by kernel_rfl)) (by unfold Func.isWrapper; first | (rw [if_pos (by decide +kernel)]; kernel_rfl) | (rw [if_neg (by decide +kernel)]; exact ⟨rfl, rfl⟩))
    (fun os started H enc _ => lifted os started H enc)

theorem proved : Rows.LzwRunsSaid :=
  over
#print axioms proved
end Go.Proofs.Ytioghgnngdcicaa.lzwRuns
