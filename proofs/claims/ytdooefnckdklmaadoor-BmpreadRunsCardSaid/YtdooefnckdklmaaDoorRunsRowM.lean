/- BmpreadRuns: rows told by runs: each run stands where it was put, and what nothing tells is clear. -/
import Derived.Test.YtdooefnckdklmaaDoorM19
import Derived.Test.YtdooefnckdklmaaDoorRows
import Derived.Test.YtdooefnckdklmaaDoorTie
import Derived.Test.YtdooefnckdklmaaDoorCards
import Derived.Lay
import Derived.SevenTiedAt
namespace Go.Proofs.YtdooefnckdklmaaDoor.bmpreadRuns
open Go.ChangeShapes Go.WideShapes Go.ChangeAt Go.RowKit
set_option linter.unusedVariables false

theorem own : ownKnob Tryd.prog.godebug = none := by kernel_rfl
theorem laidOut : laidOutB Tryd.prog = true := by kernel_rfl
set_option maxRecDepth 100000 in
theorem lifted (os : Os) (started : os.Started) (H : Type) (enc : TypeId × Value → H) :
    ReturnsInHanded {} Tryd.checked os 6 .any (fun w args => (Rows.bmpreadRunsSpec.pre enc Tryd.prog Tryd.f6 [] false w args ∧ laidMetH Tryd.prog [("math/bits.deBruijn32tab", Rows.laid_math_bits_deBruijn32tab)] w) ∧ sizedMet enc Tryd.prog Tryd.f6 (OpenSpec.ofChange Rows.bmpreadRunsSpec) false w args)
      (Rows.bmpreadRunsSpec.post enc Tryd.prog Tryd.f6 false true false false) := by
  refine law_returns_laid (tb := 4) own started (by kernel_rfl) Tryd.func6 laidOut Tryd.underlying4 rfl rfl ?_ ?_
    (ChangeSpec.witness_shaped (enc := enc) (C := Tryd.checked) (os := os) (X := fun w _ => laidMetH Tryd.prog [("math/bits.deBruijn32tab", Rows.laid_math_bits_deBruijn32tab)] w) false (World.laidAll Tryd.prog os [("math/bits.deBruijn32tab", Rows.laid_math_bits_deBruijn32tab)]) #[.slice none 0 0, .int .u8 0] 8 (World.laidAll_os _ _ _)
      (World.shaped_of_ZipB (by kernel_rfl) (by kernel_rfl)) (by kernel_rfl) (by kernel_rfl) (by kernel_rfl)
      (by rw [MakeChecks.laidMetH_plain _ _ _ (by kernel_rfl)]; exact laidMet_laidAll _ (by kernel_rfl) (by kernel_rfl))) ?_
  · intro t ht
    have ht2 : t = 46 ∨ t = 5 := by first | simpa [Tryd.params6] using ht | (simp [Tryd.params6] at ht; rcases ht with h | h <;> simp [h])
    rcases ht2 with rfl | rfl
    · exact ⟨by kernel_rfl, of_decide_eq_true (by kernel_rfl)⟩
    · exact ⟨by kernel_rfl, of_decide_eq_true (by kernel_rfl)⟩
  · intro ds hd
    match ds, hd with
    | [d0, d1], _ => rfl
  · intro W base args ds p hval hA hfz hreach hT
    have hA2 : DataW.TrodAll enc Tryd.prog W 0 (fun _ => true) true Tryd.f6.params.toList args.toList ds p := hA
    have hval2 : ∀ (j : Nat) t v, Tryd.f6.params[j]? = some t → args[j]? = some v → Value.okWide Tryd.prog W .any base t v := hval
    rw [Tryd.params6] at hA2 hval2
    obtain ⟨v0, vs0, d0, ds0, p0, q0, hargs, rfl, rfl, h0, r0⟩ := trodAll_cons hA2
    obtain ⟨v1, vs1, d1, ds1, p1, q1, rfl, rfl, rfl, h1, r1⟩ := trodAll_cons r0
    obtain ⟨rfl, rfl, rfl⟩ := trodAll_nil r1
    obtain rfl : args = #[v0, v1] := by cases args; simp_all
    obtain ⟨A, n, cap, b, rfl, hn, hmax, hB, hb, hAb⟩ := open_pairs (hval2 0 46 v0 rfl rfl) h0
    obtain ⟨u, rfl, _, _, w1⟩ := open_int Tryd.underlying5 (hval2 1 5 v1 rfl rfl) h1
    have b1 : 0 ≤ u ∧ u ≤ 255 := by simpa [Lit.wf, IntKind.min, IntKind.max, IntKind.signed, IntKind.bits] using w1
    obtain ⟨u, rfl⟩ := Int.eq_ofNat_of_zero_le b1.1
    exact runs_walk18 A n cap b hb hn u (by omega) W hB hAb hT

theorem over : Rows.bmpreadRunsRow.holds Tryd.pinned (OpenSpec.ofChange Rows.bmpreadRunsSpec) :=
  OpenClaim.holds_of_wide 6 Tryd.f6 rfl rfl rfl rfl rfl rfl rfl ⟨rfl, rfl, rfl, rfl, rfl⟩ rfl rfl rfl rfl rfl (by kernel_rfl) Tryd.func6 (by kernel_rfl)
    (of_decide_eq_true (by kernel_rfl)) (by unfold Func.isWrapper; first | (rw [if_pos (by decide +kernel)]; kernel_rfl) | (rw [if_neg (by decide +kernel)]; exact ⟨rfl, rfl⟩))
    (fun os started H enc _ => lifted os started H enc)

theorem rowed : Rows.BmpreadRunsSaid :=
  over
theorem proved : Rows.BmpreadRunsCardSaid :=
  Claim7.holds_tied_plain_at .later [] [.data] true (true, "3bad10fe68b94d1ac2a033c941c62cfc7013d98e45426f1bc99716a279238c47") true rowed (fun _ h => by cases h) (by kernel_rfl) (fun _ h => by cases h) bmpreadRuns_row_tie rfl ⟨rfl, rfl⟩ (by kernel_rfl) rfl
    (fun f fn hf hfn => by
      obtain rfl : f = 6 := Option.some.inj ((show Tryd.prog.funcNamed "engraver/engraverlaw18.BmpreadRuns" = some 6 by kernel_rfl).symm.trans hf) |>.symm
      obtain rfl : fn = Tryd.f6 := (Option.some.inj (Tryd.func6.symm.trans hfn)).symm
      exact ⟨by kernel_rfl, fun j t ht => by
        rw [Tryd.params6] at ht
        have hm : t ∈ [46, 5] := by simpa using Array.mem_of_getElem? ht
        have hall : ([46, 5].all fun u => !Tryd.prog.wantsStandIn u) = true := by kernel_rfl
        exact (show Tryd.prog.wantsStandIn t = false by simpa using List.all_eq_true.1 hall t hm)⟩)
    (by kernel_rfl)
#print axioms proved
end Go.Proofs.YtdooefnckdklmaaDoor.bmpreadRuns
