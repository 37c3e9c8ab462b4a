/- BmpreadPlain: any picture of bytes, written in the plainest way, is read as it is; from the top, too. -/
import Derived.Test.YtdooefnckdklmaaDoorM18
import Derived.Test.YtdooefnckdklmaaDoorRows
import Derived.Test.YtdooefnckdklmaaDoorTie
import Derived.Test.YtdooefnckdklmaaDoorCards
import Derived.Lay
import Derived.SevenTiedAt
namespace Go.Proofs.YtdooefnckdklmaaDoor.bmpreadPlain
open Go.ChangeShapes Go.WideShapes Go.ChangeAt Go.RowKit
set_option linter.unusedVariables false

theorem own : ownKnob Tryd.prog.godebug = none := by kernel_rfl
theorem laidOut : laidOutB Tryd.prog = true := by kernel_rfl
set_option maxRecDepth 100000 in
theorem lifted (os : Os) (started : os.Started) (H : Type) (enc : TypeId × Value → H) :
    ReturnsInHanded {} Tryd.checked os 5 .any (fun w args => (Rows.bmpreadPlainSpec.pre enc Tryd.prog Tryd.f5 [] false w args ∧ laidMetH Tryd.prog [("math/bits.deBruijn32tab", Rows.laid_math_bits_deBruijn32tab)] w) ∧ sizedMet enc Tryd.prog Tryd.f5 (OpenSpec.ofChange Rows.bmpreadPlainSpec) false w args)
      (Rows.bmpreadPlainSpec.post enc Tryd.prog Tryd.f5 false true false false) := by
  refine law_returns_laid (tb := 4) own started (by kernel_rfl) Tryd.func5 laidOut Tryd.underlying4 rfl rfl ?_ ?_
    (ChangeSpec.witness_shaped (enc := enc) (C := Tryd.checked) (os := os) (X := fun w _ => laidMetH Tryd.prog [("math/bits.deBruijn32tab", Rows.laid_math_bits_deBruijn32tab)] w) false (World.laidAll Tryd.prog os [("math/bits.deBruijn32tab", Rows.laid_math_bits_deBruijn32tab)]) #[.agg #[.int .i64 0, .int .i64 0, .slice none 0 0]] 8 (World.laidAll_os _ _ _)
      (World.shaped_of_ZipB (by kernel_rfl) (by kernel_rfl)) (by kernel_rfl) (by kernel_rfl) (by kernel_rfl)
      (by rw [MakeChecks.laidMetH_plain _ _ _ (by kernel_rfl)]; exact laidMet_laidAll _ (by kernel_rfl) (by kernel_rfl))) ?_
  · intro t ht
    have ht2 : t = 26 := by first | simpa [Tryd.params5] using ht | (simp [Tryd.params5] at ht; rcases ht with h <;> simp [h])
    subst ht2
    exact ⟨by kernel_rfl, of_decide_eq_true (by kernel_rfl)⟩
  · intro ds hd
    match ds, hd with
    | [d0], _ => rfl
  · intro W base args ds p hval hA hfz hreach hT
    have hA2 : DataW.TrodAll enc Tryd.prog W 0 (fun _ => true) true Tryd.f5.params.toList args.toList ds p := hA
    have hval2 : ∀ (j : Nat) t v, Tryd.f5.params[j]? = some t → args[j]? = some v → Value.okWide Tryd.prog W .any base t v := hval
    rw [Tryd.params5] at hA2 hval2
    obtain ⟨v0, vs0, d0, ds0, p0, q0, hargs, rfl, rfl, h0, r0⟩ := trodAll_cons hA2
    obtain ⟨rfl, rfl, rfl⟩ := trodAll_nil r0
    obtain rfl : args = #[v0] := by cases args; simp_all
    obtain ⟨a, b, A, n, cap, c, rfl, ha, hb, hn, hmax, hz, hP, hc⟩ := open_ras (hval2 0 26 v0 rfl rfl) h0
    exact plain_walk18 a b A n cap c hc ha hb hn hmax W hP hT

theorem over : Rows.bmpreadPlainRow.holds Tryd.pinned (OpenSpec.ofChange Rows.bmpreadPlainSpec) :=
  OpenClaim.holds_of_wide 5 Tryd.f5 rfl rfl rfl rfl rfl rfl rfl ⟨rfl, rfl, rfl, rfl, rfl⟩ rfl rfl rfl rfl rfl (by kernel_rfl) Tryd.func5 (by kernel_rfl)
    (of_decide_eq_true (by kernel_rfl)) (by unfold Func.isWrapper; first | (rw [if_pos (by decide +kernel)]; kernel_rfl) | (rw [if_neg (by decide +kernel)]; exact ⟨rfl, rfl⟩))
    (fun os started H enc _ => lifted os started H enc)

theorem rowed : Rows.BmpreadPlainSaid :=
  over
theorem proved : Rows.BmpreadPlainCardSaid :=
  Claim7.holds_tied_plain_at .later [] [.data] true (true, "3bad10fe68b94d1ac2a033c941c62cfc7013d98e45426f1bc99716a279238c47") true rowed (fun _ h => by cases h) (by kernel_rfl) (fun _ h => by cases h) bmpreadPlain_row_tie rfl ⟨rfl, rfl⟩ (by kernel_rfl) rfl
    (fun f fn hf hfn => by
      obtain rfl : f = 5 := Option.some.inj ((show Tryd.prog.funcNamed "engraver/engraverlaw18.BmpreadPlain" = some 5 by kernel_rfl).symm.trans hf) |>.symm
      obtain rfl : fn = Tryd.f5 := (Option.some.inj (Tryd.func5.symm.trans hfn)).symm
      exact ⟨by kernel_rfl, fun j t ht => by
        rw [Tryd.params5] at ht
        have hm : t ∈ [26] := by simpa using Array.mem_of_getElem? ht
        have hall : ([26].all fun u => !Tryd.prog.wantsStandIn u) = true := by kernel_rfl
        exact (show Tryd.prog.wantsStandIn t = false by simpa using List.all_eq_true.1 hall t hm)⟩)
    (by kernel_rfl)
#print axioms proved
end Go.Proofs.YtdooefnckdklmaaDoor.bmpreadPlain
