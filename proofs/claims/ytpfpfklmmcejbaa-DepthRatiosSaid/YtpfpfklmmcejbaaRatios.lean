/- DepthRatios: which ratio is better, that it is one order, and that a ratio of two numbers is theirs: every input, no condition. -/
import Derived.Test.YtpfpfklmmcejbaaRows
import Derived.Test.YtpfpfklmmcejbaaLift
import Derived.Test.YtpfpfklmmcejbaaRw
namespace Go.Proofs.Ytpfpfklmmcejbaa.depthRatios
open Go.ChangeShapes Go.WideShapes Go.ChangeAt Go.RowKit
set_option linter.unusedVariables false

theorem own : ownKnob Try.prog.godebug = none := by kernel_rfl
theorem laidOut : laidOutB Try.prog = true := by kernel_rfl
theorem cells33 : Try.prog.cellsOf 33 = 3 := by kernel_rfl
theorem cells32 : Try.prog.cellsOf 32 = 1 := by kernel_rfl

section
variable {H : Type} {enc : TypeId × Value → H} {P : Program} {w : World} {base : Nat} {spare : Nat → Bool} {held : Bool}
theorem trod_float {fuel : Nat} {t : TypeId} {c : Value} {x : DataW H × List MemPlace} {k : FloatKind} (ht : P.underlying t = some (.float k))
    (h : DataW.trod enc P w base spare held fuel t [c] = some x) : ∃ b, c = .float k b ∧ (Lit.float k b).wf = true := by
  cases fuel with
  | zero => simp [DataW.trod] at h
  | succ n =>
    unfold DataW.trod at h
    rw [ht] at h
    cases c <;> simp at h
    obtain ⟨⟨rfl, hw⟩, _⟩ := h
    exact ⟨_, rfl, hw⟩
theorem open_three {r : Reach} {b0 : Nat} {t e : TypeId} {v : Value} {d : DataW H} {p : List MemPlace} {k : FloatKind} (ht : P.underlying t = some (.array 3 e)) (he : P.underlying e = some (.float k))
    (hct : P.cellsOf t = 3) (hce : P.cellsOf e = 1) (hv : Value.okWide P w r b0 t v) (h : DataW.Trod enc P w base spare held t v d p) :
    ∃ x0 x1 x2, v = .agg #[.float k x0, .float k x1, .float k x2] ∧ (Lit.float k x0).wf = true ∧ (Lit.float k x1).wf = true ∧ (Lit.float k x2).wf = true := by
  unfold Value.okWide at hv
  rw [ht] at hv
  obtain ⟨cs, rfl, hcs, _⟩ := hv
  rw [hct] at hcs
  obtain ⟨fuel, hf⟩ := h
  have hl : ∃ c0 c1 c2, cs = #[c0, c1, c2] := by
    rcases cs with ⟨l⟩
    match l, hcs with
    | [c0, c1, c2], _ => exact ⟨c0, c1, c2, rfl⟩
  obtain ⟨c0, c1, c2, rfl⟩ := hl
  obtain ⟨y0, y1, y2, n, _, h0, h1, h2⟩ := trod_array3 ht hce hf
  obtain ⟨x0, rfl, w0⟩ := trod_float he h0
  obtain ⟨x1, rfl, w1⟩ := trod_float he h1
  obtain ⟨x2, rfl, w2⟩ := trod_float he h2
  exact ⟨x0, x1, x2, rfl, w0, w1, w2⟩
end

set_option maxRecDepth 100000 in
theorem lifted (os : Os) (started : os.Started) (H : Type) (enc : TypeId × Value → H) :
    ReturnsInHanded {} Try.checked os 5 .any (Rows.depthRatiosSpec.pre6 enc Try.prog Try.f5 Rows.depthRatiosRow.domain false) (Rows.depthRatiosSpec.post enc Try.prog Try.f5 false true false false) := by
  refine law_returns (C := Try.checked) (tb := 4) own started (by kernel_rfl) Try.func5 laidOut Try.underlying4 rfl rfl ?_ ?_
    (ChangeSpec.witness6 (enc := enc) (C := Try.checked) false ⟨#[], #[.agg #[.float .f64 0, .float .f64 0, .float .f64 0], .int .i64 0, .int .i64 0], []⟩ 8 (by kernel_rfl) (by kernel_rfl) (by kernel_rfl) (by kernel_rfl)) ?_
  · intro t ht
    have : t = 33 ∨ t = 3 := by simpa [Try.params5] using ht
    rcases this with rfl | rfl
    · exact ⟨by kernel_rfl, of_decide_eq_true (by kernel_rfl)⟩
    · exact ⟨by kernel_rfl, of_decide_eq_true (by kernel_rfl)⟩
  · intro ds hd
    match ds, hd with
    | [d0, d1, d2], _ => rfl
  · intro W base args ds p hval hA _ _
    have hA2 : DataW.TrodAll enc Try.prog W 0 (fun _ => true) true Try.f5.params.toList args.toList ds p := hA
    have hval2 : ∀ (j : Nat) t v, Try.f5.params[j]? = some t → args[j]? = some v → Value.okWide Try.prog W .any base t v := hval
    rw [Try.params5] at hA2 hval2
    obtain ⟨v0, vs0, d0, ds0, p0, q0, hargs, rfl, rfl, h0, r0⟩ := trodAll_cons hA2
    obtain ⟨v1, vs1, d1, ds1, p1, q1, rfl, rfl, rfl, h1, r1⟩ := trodAll_cons r0
    obtain ⟨v2, vs2, d2, ds2, p2, q2, rfl, rfl, rfl, h2, r2⟩ := trodAll_cons r1
    obtain ⟨rfl, rfl, rfl⟩ := trodAll_nil r2
    obtain rfl : args = #[v0, v1, v2] := by cases args; simp_all
    obtain ⟨x0, x1, x2, rfl, w0, w1, w2⟩ := open_three Try.underlying33 Try.underlying32 cells33 cells32 (hval2 0 33 v0 rfl rfl) h0
    obtain ⟨a1, rfl, _, _, _⟩ := open_int Try.underlying3 (hval2 1 3 v1 rfl rfl) h1
    obtain ⟨a2, rfl, _, _, _⟩ := open_int Try.underlying3 (hval2 2 3 v2 rfl rfl) h2
    have hl : Lt64 (fun k => if k = 0 then x0 else if k = 1 then x1 else x2) := by
      intro k
      have e0 : x0 < 18446744073709551616 := by simpa [Lit.wf] using w0
      have e1 : x1 < 18446744073709551616 := by simpa [Lit.wf] using w1
      have e2 : x2 < 18446744073709551616 := by simpa [Lit.wf] using w2
      dsimp only
      split
      · exact e0
      · split
        · exact e1
        · exact e2
    exact ratios_walk _ hl a1 a2 W

theorem over : Rows.depthRatiosRow.holds Try.pinned (OpenSpec.ofChange Rows.depthRatiosSpec) :=
  OpenClaim.holds_of_wide 5 Try.f5 rfl rfl rfl rfl rfl rfl rfl ⟨rfl, rfl, rfl, rfl, rfl⟩ rfl rfl rfl rfl rfl (by kernel_rfl) Try.func5 (by kernel_rfl)
    (of_decide_eq_true (by kernel_rfl)) (by unfold Func.isWrapper; first | (rw [if_pos (by decide +kernel)]; kernel_rfl) | (rw [if_neg (by decide +kernel)]; exact ⟨rfl, rfl⟩))
    (fun os started H enc _ => lifted os started H enc)

theorem proved : Rows.DepthRatiosSaid :=
  over
#print axioms proved
end Go.Proofs.Ytpfpfklmmcejbaa.depthRatios
