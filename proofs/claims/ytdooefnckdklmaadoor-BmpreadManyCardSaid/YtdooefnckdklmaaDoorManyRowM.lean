/- BmpreadMany: numbers of 16 and 32 bits by any masks that may be: each sample to the nearest of eight bits; masks that may not be are told. -/
import Derived.Test.YtdooefnckdklmaaDoorM36
import Derived.Test.YtdooefnckdklmaaDoorRows
import Derived.Test.YtdooefnckdklmaaDoorTie
import Derived.Test.YtdooefnckdklmaaDoorCards
import Derived.Lay
import Derived.SevenTiedAt
namespace Go.Proofs.YtdooefnckdklmaaDoor.bmpreadMany
open Go.ChangeShapes Go.WideShapes Go.ChangeAt Go.RowKit
set_option linter.unusedVariables false

theorem own : ownKnob Tryd.prog.godebug = none := by kernel_rfl
theorem laidOut : laidOutB Tryd.prog = true := by kernel_rfl
set_option maxRecDepth 100000 in
theorem lifted (os : Os) (started : os.Started) (H : Type) (enc : TypeId × Value → H) :
    ReturnsInHanded {} Tryd.checked os 8 .any (fun w args => (Rows.bmpreadManySpec.pre enc Tryd.prog Tryd.f8 [] false w args ∧ laidMetH Tryd.prog [("math/bits.deBruijn32tab", Rows.laid_math_bits_deBruijn32tab)] w) ∧ sizedMet enc Tryd.prog Tryd.f8 (OpenSpec.ofChange Rows.bmpreadManySpec) false w args)
      (Rows.bmpreadManySpec.post enc Tryd.prog Tryd.f8 false true false false) := by
  refine law_returns_laid (tb := 4) own started (by kernel_rfl) Tryd.func8 laidOut Tryd.underlying4 rfl rfl ?_ ?_
    (ChangeSpec.witness_shaped (enc := enc) (C := Tryd.checked) (os := os) (X := fun w _ => laidMetH Tryd.prog [("math/bits.deBruijn32tab", Rows.laid_math_bits_deBruijn32tab)] w) false (World.laidAll Tryd.prog os [("math/bits.deBruijn32tab", Rows.laid_math_bits_deBruijn32tab)]) #[.agg #[.int .u32 0, .int .u32 0, .int .u32 0, .int .u32 0], .slice none 0 0, .bool false] 8 (World.laidAll_os _ _ _)
      (World.shaped_of_ZipB (by kernel_rfl) (by kernel_rfl)) (by kernel_rfl) (by kernel_rfl) (by kernel_rfl)
      (by rw [MakeChecks.laidMetH_plain _ _ _ (by kernel_rfl)]; exact laidMet_laidAll _ (by kernel_rfl) (by kernel_rfl))) ?_
  · intro t ht
    have ht2 : t = 57 ∨ t = 58 ∨ t = 4 := by first | simpa [Tryd.params8] using ht | (simp [Tryd.params8] at ht; rcases ht with h | h | h <;> simp [h])
    rcases ht2 with rfl | rfl | rfl
    · exact ⟨by kernel_rfl, of_decide_eq_true (by kernel_rfl)⟩
    · exact ⟨by kernel_rfl, of_decide_eq_true (by kernel_rfl)⟩
    · exact ⟨by kernel_rfl, of_decide_eq_true (by kernel_rfl)⟩
  · intro ds hd
    match ds, hd with
    | [d0, d1, d2], _ => rfl
  · intro W base args ds p hval hA hfz hreach hT
    have hA2 : DataW.TrodAll enc Tryd.prog W 0 (fun _ => true) true Tryd.f8.params.toList args.toList ds p := hA
    have hval2 : ∀ (j : Nat) t v, Tryd.f8.params[j]? = some t → args[j]? = some v → Value.okWide Tryd.prog W .any base t v := hval
    rw [Tryd.params8] at hA2 hval2
    obtain ⟨v0, vs0, d0, ds0, p0, q0, hargs, rfl, rfl, h0, r0⟩ := trodAll_cons hA2
    obtain ⟨v1, vs1, d1, ds1, p1, q1, rfl, rfl, rfl, h1, r1⟩ := trodAll_cons r0
    obtain ⟨v2, vs2, d2, ds2, p2, q2, rfl, rfl, rfl, h2, r2⟩ := trodAll_cons r1
    obtain ⟨rfl, rfl, rfl⟩ := trodAll_nil r2
    obtain rfl : args = #[v0, v1, v2] := by cases args; simp_all
    obtain ⟨qq, rfl, hq⟩ := open_w4 (hval2 0 57 v0 rfl rfl) h0
    obtain ⟨A, m, cap, b, rfl, hm, hmax, hz, hB, hb⟩ := open_u32s (hval2 1 58 v1 rfl rfl) h1
    obtain ⟨wd, rfl, _, _⟩ := open_bool Tryd.underlying4 (hval2 2 4 v2 rfl rfl) h2
    exact many_walk18 (pt4 qq) b (pt4_lt32 hq.1 hq.2.1 hq.2.2.1 hq.2.2.2) hb A m cap hm hmax wd W hB hT

theorem over : Rows.bmpreadManyRow.holds Tryd.pinned (OpenSpec.ofChange Rows.bmpreadManySpec) :=
  OpenClaim.holds_of_wide 8 Tryd.f8 rfl rfl rfl rfl rfl rfl rfl ⟨rfl, rfl, rfl, rfl, rfl⟩ rfl rfl rfl rfl rfl (by kernel_rfl) Tryd.func8 (by kernel_rfl)
    (of_decide_eq_true (by kernel_rfl)) (by unfold Func.isWrapper; first | (rw [if_pos (by decide +kernel)]; kernel_rfl) | (rw [if_neg (by decide +kernel)]; exact ⟨rfl, rfl⟩))
    (fun os started H enc _ => lifted os started H enc)

theorem rowed : Rows.BmpreadManySaid :=
  over
theorem proved : Rows.BmpreadManyCardSaid :=
  Claim7.holds_tied_plain_at .later [] [.data] true (true, "3bad10fe68b94d1ac2a033c941c62cfc7013d98e45426f1bc99716a279238c47") true rowed (fun _ h => by cases h) (by kernel_rfl) (fun _ h => by cases h) bmpreadMany_row_tie rfl ⟨rfl, rfl⟩ (by kernel_rfl) rfl
    (fun f fn hf hfn => by
      obtain rfl : f = 8 := Option.some.inj ((show Tryd.prog.funcNamed "engraver/engraverlaw18.BmpreadMany" = some 8 by kernel_rfl).symm.trans hf) |>.symm
      obtain rfl : fn = Tryd.f8 := (Option.some.inj (Tryd.func8.symm.trans hfn)).symm
      exact ⟨by kernel_rfl, fun j t ht => by
        rw [Tryd.params8] at ht
        have hm : t ∈ [57, 58, 4] := by simpa using Array.mem_of_getElem? ht
        have hall : ([57, 58, 4].all fun u => !Tryd.prog.wantsStandIn u) = true := by kernel_rfl
        exact (show Tryd.prog.wantsStandIn t = false by simpa using List.all_eq_true.1 hall t hm)⟩)
    (by kernel_rfl)
#print axioms proved
end Go.Proofs.YtdooefnckdklmaaDoor.bmpreadMany
