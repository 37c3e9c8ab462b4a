/- LzwSlices: any bytes, any size, any limit, any steps: however the reader goes on, it tells nothing ahead of its end, and there what the document's own reader tells. -/
import Derived.Test.YtioghgnngdcicaaRows
import Derived.Test.YtioghgnngdcicaaLift
import Derived.Test.YtioghgnngdcicaaLzSw
import Derived.Test.YtioghgnngdcicaaOpI
namespace Go.Proofs.Ytioghgnngdcicaa.lzwSlices
open Go.ChangeShapes Go.WideShapes Go.ChangeAt Go.RowKit
set_option linter.unusedVariables false

theorem own : ownKnob Try.prog.godebug = none := by kernel_rfl
theorem laidOut : laidOutB Try.prog = true := by kernel_rfl
set_option maxRecDepth 100000 in
theorem lifted (os : Os) (started : os.Started) (H : Type) (enc : TypeId × Value → H) :
    ReturnsInHanded {} Try.checked os 4 .any (Rows.lzwSlicesSpec.pre6 enc Try.prog Try.f4 Rows.lzwSlicesRow.domain false) (Rows.lzwSlicesSpec.post enc Try.prog Try.f4 false true false false) := by
  refine law_returns (C := Try.checked) (tb := 4) own started (by kernel_rfl) Try.func4 laidOut Try.underlying4 rfl rfl ?_ ?_
    (ChangeSpec.witness6 (enc := enc) (C := Try.checked) false ⟨#[], #[.slice none 0 0, .agg #[.int .i64 0, .int .i64 0], .slice none 0 0], []⟩ 8 (by kernel_rfl) (by kernel_rfl) (by kernel_rfl) (by kernel_rfl)) ?_
  · intro t ht
    have ht2 : t = 22 ∨ t = 30 ∨ t = 31 := by first | simpa [Try.params4] using ht | (simp [Try.params4] at ht; rcases ht with h | h | h <;> simp [h])
    rcases ht2 with rfl | rfl | rfl
    · exact ⟨by kernel_rfl, of_decide_eq_true (by kernel_rfl)⟩
    · exact ⟨by kernel_rfl, of_decide_eq_true (by kernel_rfl)⟩
    · exact ⟨by kernel_rfl, of_decide_eq_true (by kernel_rfl)⟩
  · intro ds hd
    match ds, hd with
    | [d0, d1, d2], _ => rfl
  · intro W base args ds p hval hA hfz hreach
    have hA2 : DataW.TrodAll enc Try.prog W 0 (fun _ => true) true Try.f4.params.toList args.toList ds p := hA
    have hval2 : ∀ (j : Nat) t v, Try.f4.params[j]? = some t → args[j]? = some v → Value.okWide Try.prog W .any base t v := hval
    rw [Try.params4] at hA2 hval2
    obtain ⟨v0, vs0, d0, ds0, p0, q0, hargs, rfl, rfl, h0, r0⟩ := trodAll_cons hA2
    obtain ⟨v1, vs1, d1, ds1, p1, q1, rfl, rfl, rfl, h1, r1⟩ := trodAll_cons r0
    obtain ⟨v2, vs2, d2, ds2, p2, q2, rfl, rfl, rfl, h2, r2⟩ := trodAll_cons r1
    obtain ⟨rfl, rfl, rfl⟩ := trodAll_nil r2
    obtain rfl : args = #[v0, v1, v2] := by cases args; simp_all
    obtain ⟨A, n, cap, b, rfl, hb1, hb2, hb3, hB, hb⟩ := open_bytes (hval2 0 22 v0 rfl rfl) h0
    obtain ⟨n0, n1, rfl, hn0, hn1⟩ := open_i2 (hval2 1 30 v1 rfl rfl) h1
    obtain ⟨Q, m, capq, f, rfl, hq1, hq2, hQ, hf⟩ := open_nums (hval2 2 31 v2 rfl rfl) h2
    exact slices_walk A n cap b hb hb1 hb2 hb3 n0 n1 hn0 hn1 Q m capq f hf hq1 hq2 W hB hQ

theorem over : Rows.lzwSlicesRow.holds Try.pinned (OpenSpec.ofChange Rows.lzwSlicesSpec) :=
  OpenClaim.holds_of_wide 4 Try.f4 rfl rfl rfl rfl rfl rfl rfl ⟨rfl, rfl, rfl, rfl, rfl⟩ rfl rfl rfl rfl rfl (by kernel_rfl) Try.func4 (by kernel_rfl)
    (of_decide_eq_true (by kernel_rfl)) (by unfold Func.isWrapper; first | (rw [if_pos (by decide +kernel)]; kernel_rfl) | (rw [if_neg (by decide +kernel)]; exact ⟨rfl, rfl⟩))
    (fun os started H enc _ => lifted os started H enc)

theorem proved : Rows.LzwSlicesSaid :=
  over
#print axioms proved
end Go.Proofs.Ytioghgnngdcicaa.lzwSlices
