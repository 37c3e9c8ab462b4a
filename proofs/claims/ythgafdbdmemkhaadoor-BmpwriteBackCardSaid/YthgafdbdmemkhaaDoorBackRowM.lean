/- BmpwriteBack: any picture that fits is read as it was written, by whoever reads it; one that does not is told so. -/
import Derived.Test.YthgafdbdmemkhaaDoorM22
import Derived.Test.YthgafdbdmemkhaaDoorRows
import Derived.Test.YthgafdbdmemkhaaDoorTie
import Derived.Test.YthgafdbdmemkhaaDoorCards
import Derived.Lay
import Derived.SevenTiedAt
namespace Go.Proofs.YthgafdbdmemkhaaDoor.bmpwriteBack
open Go.ChangeShapes Go.WideShapes Go.ChangeAt Go.RowKit
set_option linter.unusedVariables false

theorem own : ownKnob Tryd.prog.godebug = none := by kernel_rfl
theorem laidOut : laidOutB Tryd.prog = true := by kernel_rfl
set_option maxRecDepth 100000 in
theorem lifted (os : Os) (started : os.Started) (H : Type) (enc : TypeId × Value → H) :
    ReturnsInHanded {} Tryd.checked os 3 .any (fun w args => (Rows.bmpwriteBackSpec.pre enc Tryd.prog Tryd.f3 [] false w args ∧ laidMetH Tryd.prog [("math/bits.deBruijn32tab", Rows.laid_math_bits_deBruijn32tab)] w) ∧ sizedMet enc Tryd.prog Tryd.f3 (OpenSpec.ofChange Rows.bmpwriteBackSpec) false w args)
      (Rows.bmpwriteBackSpec.post enc Tryd.prog Tryd.f3 false true false false) := by
  refine law_returns_laid (tb := 4) own started (by kernel_rfl) Tryd.func3 laidOut Tryd.underlying4 rfl rfl ?_ ?_
    (ChangeSpec.witness_shaped (enc := enc) (C := Tryd.checked) (os := os) (X := fun w _ => laidMetH Tryd.prog [("math/bits.deBruijn32tab", Rows.laid_math_bits_deBruijn32tab)] w) false (World.laidAll Tryd.prog os [("math/bits.deBruijn32tab", Rows.laid_math_bits_deBruijn32tab)]) #[.agg #[.int .i64 0, .int .i64 0, .slice none 0 0]] 8 (World.laidAll_os _ _ _)
      (World.shaped_of_ZipB (by kernel_rfl) (by kernel_rfl)) (by kernel_rfl) (by kernel_rfl) (by kernel_rfl)
      (by rw [MakeChecks.laidMetH_plain _ _ _ (by kernel_rfl)]; exact laidMet_laidAll _ (by kernel_rfl) (by kernel_rfl))) ?_
  · intro t ht
    have ht2 : t = 24 := by first | simpa [Tryd.params3] using ht | (simp [Tryd.params3] at ht; rcases ht with h <;> simp [h])
    subst ht2
    exact ⟨by kernel_rfl, of_decide_eq_true (by kernel_rfl)⟩
  · intro ds hd
    match ds, hd with
    | [d0], _ => rfl
  · intro W base args ds p hval hA hfz hreach hT
    have hA2 : DataW.TrodAll enc Tryd.prog W 0 (fun _ => true) true Tryd.f3.params.toList args.toList ds p := hA
    have hval2 : ∀ (j : Nat) t v, Tryd.f3.params[j]? = some t → args[j]? = some v → Value.okWide Tryd.prog W .any base t v := hval
    rw [Tryd.params3] at hA2 hval2
    obtain ⟨v0, vs0, d0, ds0, p0, q0, hargs, rfl, rfl, h0, r0⟩ := trodAll_cons hA2
    obtain ⟨rfl, rfl, rfl⟩ := trodAll_nil r0
    obtain rfl : args = #[v0] := by cases args; simp_all
    obtain ⟨a, b, A, n, cap, c, rfl, ha, hb, hn, hmax, hz, hP, hc⟩ := open_ras (hval2 0 24 v0 rfl rfl) h0
    exact bback_walk a b A n cap c hc ha hb hn hmax hz W hP hT

theorem over : Rows.bmpwriteBackRow.holds Tryd.pinned (OpenSpec.ofChange Rows.bmpwriteBackSpec) :=
  OpenClaim.holds_of_wide 3 Tryd.f3 rfl rfl rfl rfl rfl rfl rfl ⟨rfl, rfl, rfl, rfl, rfl⟩ rfl rfl rfl rfl rfl (by kernel_rfl) Tryd.func3 (by kernel_rfl)
    (of_decide_eq_true (by kernel_rfl)) (by unfold Func.isWrapper; first | (rw [if_pos (by decide +kernel)]; kernel_rfl) | (rw [if_neg (by decide +kernel)]; exact ⟨rfl, rfl⟩))
    (fun os started H enc _ => lifted os started H enc)

theorem rowed : Rows.BmpwriteBackSaid :=
  over
theorem proved : Rows.BmpwriteBackCardSaid :=
  Claim7.holds_tied_plain_at .later [] [.data] true (true, "28e8ec4a8e1892ffa726cbda6cab9a5ba379dbce3b8bea5b6bef52ff532eb958") true rowed (fun _ h => by cases h) (by kernel_rfl) (fun _ h => by cases h) bmpwriteBack_row_tie rfl ⟨rfl, rfl⟩ (by kernel_rfl) rfl
    (fun f fn hf hfn => by
      obtain rfl : f = 3 := Option.some.inj ((show Tryd.prog.funcNamed "engraver/engraverlaw19.BmpwriteBack" = some 3 by kernel_rfl).symm.trans hf) |>.symm
      obtain rfl : fn = Tryd.f3 := (Option.some.inj (Tryd.func3.symm.trans hfn)).symm
      exact ⟨by kernel_rfl, fun j t ht => by
        rw [Tryd.params3] at ht
        have hm : t ∈ [24] := by simpa using Array.mem_of_getElem? ht
        have hall : ([24].all fun u => !Tryd.prog.wantsStandIn u) = true := by kernel_rfl
        exact (show Tryd.prog.wantsStandIn t = false by simpa using List.all_eq_true.1 hall t hm)⟩)
    (by kernel_rfl)
#print axioms proved
end Go.Proofs.YthgafdbdmemkhaaDoor.bmpwriteBack
