/- AdamBytes: how many bytes a row has and all rows of any passes have, as the reference has them: every input, no condition. -/
import Derived.Test.YtcnijaakcjkekaaRows
import Derived.Test.YtcnijaakcjkekaaLift
import Derived.Test.YtcnijaakcjkekaaAw
import Derived.Test.YtcnijaakcjkekaaOpen
namespace Go.Proofs.Ytcnijaakcjkekaa.adamBytes
open Go.ChangeShapes Go.WideShapes Go.ChangeAt Go.RowKit
set_option linter.unusedVariables false

theorem own : ownKnob Try.prog.godebug = none := by kernel_rfl
theorem laidOut : laidOutB Try.prog = true := by kernel_rfl
theorem cells40 : Try.prog.cellsOf 40 = 6 := by kernel_rfl
theorem cells3 : Try.prog.cellsOf 3 = 1 := by kernel_rfl
section
variable {H : Type} {enc : TypeId × Value → H} {w : World}
theorem int_of {fuel j : Nat} {c : Value} {xs : List (DataW H × List MemPlace)} (hj : j < xs.length) (h : DataW.trod enc Try.prog w 0 (fun _ => true) true fuel 3 [c] = xs[j]?) : ∃ a, c = .int .i64 a := by
  rw [List.getElem?_eq_getElem hj] at h
  obtain ⟨a, hc, _⟩ := DataW.trod_int Try.underlying3 h
  simp at hc
  exact ⟨a, hc⟩
theorem open_six {fuel : Nat} {cs : List Value} {y : DataW H × List MemPlace} (hl : cs.length = 6) (h : DataW.trod enc Try.prog w 0 (fun _ => true) true fuel 40 cs = some y) : ∃ p, cs = cells6 p := by
  obtain ⟨xs, n, _, _, _, hx, hf⟩ := DataW.trod_struct Try.underlying40 h
  have hx6 : xs.length = 6 := hx
  match cs, hl with
  | [c0, c1, c2, c3, c4, c5], _ =>
    have f0 : DataW.trod enc Try.prog w 0 (fun _ => true) true n 3 (([c0, c1, c2, c3, c4, c5].drop 0).take (Try.prog.cellsOf 3)) = xs[0]? := hf 0 _ rfl
    have f1 : DataW.trod enc Try.prog w 0 (fun _ => true) true n 3 (([c0, c1, c2, c3, c4, c5].drop 1).take (Try.prog.cellsOf 3)) = xs[1]? := hf 1 _ rfl
    have f2 : DataW.trod enc Try.prog w 0 (fun _ => true) true n 3 (([c0, c1, c2, c3, c4, c5].drop 2).take (Try.prog.cellsOf 3)) = xs[2]? := hf 2 _ rfl
    have f3 : DataW.trod enc Try.prog w 0 (fun _ => true) true n 3 (([c0, c1, c2, c3, c4, c5].drop 3).take (Try.prog.cellsOf 3)) = xs[3]? := hf 3 _ rfl
    have f4 : DataW.trod enc Try.prog w 0 (fun _ => true) true n 3 (([c0, c1, c2, c3, c4, c5].drop 4).take (Try.prog.cellsOf 3)) = xs[4]? := hf 4 _ rfl
    have f5 : DataW.trod enc Try.prog w 0 (fun _ => true) true n 3 (([c0, c1, c2, c3, c4, c5].drop 5).take (Try.prog.cellsOf 3)) = xs[5]? := hf 5 _ rfl
    simp only [cells3, List.drop_zero, List.drop_succ_cons, List.take_succ_cons, List.take_zero] at f0 f1 f2 f3 f4 f5
    obtain ⟨a0, rfl⟩ := int_of (by omega) f0
    obtain ⟨a1, rfl⟩ := int_of (by omega) f1
    obtain ⟨a2, rfl⟩ := int_of (by omega) f2
    obtain ⟨a3, rfl⟩ := int_of (by omega) f3
    obtain ⟨a4, rfl⟩ := int_of (by omega) f4
    obtain ⟨a5, rfl⟩ := int_of (by omega) f5
    exact ⟨⟨a0, a1, a2, a3, a4, a5⟩, rfl⟩
theorem passes_of {n : Nat} {E : Nat → List Value} (hE : ∀ i, i < n → (E i).length = 6) (hr : ∀ i, i < n → ∃ fuel y, DataW.trod enc Try.prog w 0 (fun _ => true) true fuel 40 (E i) = some y) :
    ∃ l : List P6, n = l.length ∧ (List.range n).flatMap E = cellsL l := by
  induction n with
  | zero => exact ⟨[], rfl, rfl⟩
  | succ n ih =>
    obtain ⟨l, hl, he⟩ := ih (fun i hi => hE i (by omega)) (fun i hi => hr i (by omega))
    obtain ⟨fuel, y, hy⟩ := hr n (by omega)
    obtain ⟨p, hp⟩ := open_six (hE n (by omega)) hy
    refine ⟨l ++ [p], by simp [hl], ?_⟩
    rw [List.range_succ, List.flatMap_append, he]
    simp [cellsL, hp]
end

set_option maxRecDepth 100000 in
theorem lifted (os : Os) (started : os.Started) (H : Type) (enc : TypeId × Value → H) :
    ReturnsInHanded {} Try.checked os 5 .any (Rows.adamBytesSpec.pre6 enc Try.prog Try.f5 Rows.adamBytesRow.domain false) (Rows.adamBytesSpec.post enc Try.prog Try.f5 false true false false) := by
  refine law_returns (C := Try.checked) (tb := 4) own started (by kernel_rfl) Try.func5 laidOut Try.underlying4 rfl rfl ?_ ?_
    (ChangeSpec.witness6 (enc := enc) (C := Try.checked) false ⟨#[], #[.slice none 0 0, .int .i64 0, .int .i64 0], []⟩ 8 (by kernel_rfl) (by kernel_rfl) (by kernel_rfl) (by kernel_rfl)) ?_
  · intro t ht
    have ht2 : t = 24 ∨ t = 3 := by simpa [Try.params5] using ht
    rcases ht2 with rfl | rfl
    · exact ⟨by kernel_rfl, of_decide_eq_true (by kernel_rfl)⟩
    · exact ⟨by kernel_rfl, of_decide_eq_true (by kernel_rfl)⟩
  · intro ds hd
    match ds, hd with
    | [d0, d1, d2], _ => rfl
  · intro W base args ds p hval hA hfz hreach
    have hA2 : DataW.TrodAll enc Try.prog W 0 (fun _ => true) true Try.f5.params.toList args.toList ds p := hA
    have hval2 : ∀ (j : Nat) t v, Try.f5.params[j]? = some t → args[j]? = some v → Value.okWide Try.prog W .any base t v := hval
    rw [Try.params5] at hA2 hval2
    obtain ⟨v0, vs0, d0, ds0, p0, q0, hargs, rfl, rfl, h0, r0⟩ := trodAll_cons hA2
    obtain ⟨v1, vs1, d1, ds1, p1, q1, rfl, rfl, rfl, h1, r1⟩ := trodAll_cons r0
    obtain ⟨v2, vs2, d2, ds2, p2, q2, rfl, rfl, rfl, h2, r2⟩ := trodAll_cons r1
    obtain ⟨rfl, rfl, rfl⟩ := trodAll_nil r2
    obtain rfl : args = #[v0, v1, v2] := by cases args; simp_all
    obtain ⟨n, E, hs, hE, hr⟩ := open_sl Try.underlying24 cells40 (by omega) (hval2 0 24 v0 rfl rfl) h0
    obtain ⟨b, rfl, _, _, w1⟩ := open_int Try.underlying3 (hval2 1 3 v1 rfl rfl) h1
    have b1 : -9223372036854775808 ≤ b ∧ b ≤ 9223372036854775807 := by simpa [Lit.wf, IntKind.min, IntKind.max, IntKind.signed, IntKind.bits] using w1
    obtain ⟨k, rfl, _, _, w2⟩ := open_int Try.underlying3 (hval2 2 3 v2 rfl rfl) h2
    have b2 : -9223372036854775808 ≤ k ∧ k ≤ 9223372036854775807 := by simpa [Lit.wf, IntKind.min, IntKind.max, IntKind.signed, IntKind.bits] using w2
    obtain ⟨l, hl, he⟩ := passes_of hE hr
    subst hl
    rw [he] at hs
    exact adamBytes_walk v0 l b k W hs

theorem over : Rows.adamBytesRow.holds Try.pinned (OpenSpec.ofChange Rows.adamBytesSpec) :=
  OpenClaim.holds_of_wide 5 Try.f5 rfl rfl rfl rfl rfl rfl rfl ⟨rfl, rfl, rfl, rfl, rfl⟩ rfl rfl rfl rfl rfl (by kernel_rfl) Try.func5 (by kernel_rfl)
    (of_decide_eq_true (by kernel_rfl)) (by unfold Func.isWrapper; first | (rw [if_pos (by decide +kernel)]; kernel_rfl) | (rw [if_neg (by decide +kernel)]; exact ⟨rfl, rfl⟩))
    (fun os started H enc _ => lifted os started H enc)

theorem proved : Rows.AdamBytesSaid :=
  over
#print axioms proved
end Go.Proofs.Ytcnijaakcjkekaa.adamBytes
