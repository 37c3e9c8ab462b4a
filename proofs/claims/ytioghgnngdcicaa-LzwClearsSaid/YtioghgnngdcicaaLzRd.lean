/- lzw.Read. -/
import Derived.Test.YtioghgnngdcicaaLzNew
namespace Go.Proofs.Ytioghgnngdcicaa
set_option linter.unusedVariables false
open Go.ChangeShapes Go.WideShapes Go.ChangeAt Go.RowKit

theorem NewB.chgB {B : Nat} {w w' : World} {n : Nat} {A : Option Addr} {cap : Nat} {b : Nat → Nat} (h : NewB B w n A cap b) (hb : Below w.heap.size w w') : NewB B w' n A cap b :=
  ⟨h.le, h.max, h.nil, h.byt.below hb, h.far, (fun a ha => Nat.lt_of_lt_of_le (h.lt a ha) hb.size), h.form⟩
/-- What a reader's loop has. -/
def RdR (g gl : Nat) (A : Option Addr) (n cap : Nat) (b : Nat → Nat) (most sz cl : Nat) (r : List Nat × Nat) (w0 : World) (k : Nat) (wr : World) : Prop :=
  ∃ S ol en, LzF g gl A n cap b most sz cl r k ol en S wr ∧ (∀ x ∈ S, w0.heap.size ≤ x) ∧ Below w0.heap.size w0 wr
set_option maxRecDepth 100000 in
set_option maxHeartbeats 2000000 in
theorem read_lzw (A : Option Addr) (n cap : Nat) (b : Nat → Nat) (hbt : ∀ i, b i < 256) (hn : n ≤ cap) (hmax : cap ≤ maxLen) (hz : A = none → cap = 0) (hsmall : n ≤ 1000000) (size most : Int) (hmost : most ≤ 1000000) (w : World) (hP : Byt w A n b) :
    Calls Try.prog 12 #[.slice A n cap, .int .i64 size, .int .i64 most] w fun e w' => ∃ A' cap', e = .returned (.tuple #[.slice A' (lzwV b n size most).1.length cap', .int .i64 ((lzwV b n size most).2 : Nat)]) ∧ NewB w.heap.size w' (lzwV b n size most).1.length A' cap' (gz (lzwV b n size most).1) ∧ Below w.heap.size w w' := by
  by_cases hm : mayB size most = true
  · obtain ⟨sz, rfl⟩ : ∃ k : Nat, size = k := Int.eq_ofNat_of_zero_le (by unfold mayB at hm; simp at hm; omega)
    obtain ⟨mo, rfl⟩ : ∃ k : Nat, most = k := Int.eq_ofNat_of_zero_le (by unfold mayB at hm; simp at hm; omega)
    have h1 : 2 ≤ sz := by unfold mayB at hm; simp at hm; omega
    have h2 : sz ≤ 8 := by unfold mayB at hm; simp at hm; omega
    obtain ⟨r, hr⟩ : ∃ r, r = lzwV b n sz mo := ⟨_, rfl⟩
    rw [← hr]
    have HR := Lib.hid hr
    clear hr
    go_enter Try.func12, Try.ntmps12
    go_wp2_with fail
    refine (newr_yes A n cap b hn hmax hz hsmall sz mo h1 h2 _ hP).mono ?_
    rintro e w1 ⟨g, gl, A', cap', S, k, rfl, hF, hS, hB⟩
    rw [← HR.out] at hF
    clear HR
    have H0 : Hid (RdR g gl A' n cap' b mo sz (2 ^ sz) r w k w1) := Lib.hid ⟨S, 0, false, hF, hS, hB⟩
    clear hF hS hB hm
    go_wp2_with fail
    go_loopg [] k (fun k wr => RdR g gl A' n cap' b mo sz (2 ^ sz) r w k wr)
    case atStart => exact H0.out
    case round =>
      obtain ⟨S1, ol, en, hF, hS, hB⟩ := hrel
      have hF2 := hF
      obtain ⟨s, wt, er, ⟨⟨vt, vw, vo, lc, t, hb, hmm, hp⟩, h256⟩, hom, hkz, hol, he1, he2⟩ := hF2
      subst hol
      clear hkz
      have c8 := hp_cell (j := 8) hb rfl
      have c9 := hp_cell (j := 9) hb rfl
      have c10 := hp_cell (j := 10) hb rfl
      have ho := hmm.out
      have HF := Lib.hid hF
      have HS := Lib.hid hS
      have HB := Lib.hid hB
      clear hF hS hB hb hp h256 hmm
      cases en with
      | true =>
        obtain ⟨q1, q2⟩ := he1 rfl
        clear he1 he2
        obtain ⟨r1, r2⟩ := r
        simp only at q1 q2
        subst q1 q2
        go_wp2_with fail
        refine (done_r g true _ c9).mono ?_
        rintro e w' ⟨rfl, rfl⟩
        go_wp2_with fail
        refine (out_yes g (g + 1) vo s.out (by omega) _ c9 c8 ho).mono ?_
        rintro e w2 ⟨A2, cap2, rfl, hN, hB2⟩
        have c10' := (hB2.cell (p := ⟨g, 10, none⟩) (lt_of_cell c10)).trans c10
        have hN2 : NewB w.heap.size w2 s.out.length A2 cap2 (gz s.out) := ⟨hN.le, hN.max, hN.nil, hN.byt, (fun a ha => Nat.le_trans HB.out.size (hN.far a ha)), hN.lt, hN.form⟩
        have HN := Lib.hid hN2
        have HB2 := Lib.hid (HB.out.trans (hB2.mono HB.out.size))
        clear hN hB2 hN2 c8 c9 c10 ho
        go_wp2_with fail
        refine (err_r g r2 _ c10').mono ?_
        rintro e w3 ⟨rfl, rfl⟩
        go_wp2
        go_ret2
        exact ⟨A2, cap2, rfl, HN.out, HB2.out⟩
      | false =>
        clear he1 he2
        go_wp2_with fail
        refine (done_r g false _ c9).mono ?_
        rintro e w' ⟨rfl, rfl⟩
        go_wp2_with fail
        refine (step_any g gl A' n cap' b mo sz (2 ^ sz) r hbt hsmall (by omega) gk _ S1 1048576 (by omega) _ HF.out).mono ?_
        rintro e w2 ⟨S2, k2, ol2, en2, rfl, hF2, hC2, hM2, hk2, _⟩
        have hnew : RdR g gl A' n cap' b mo sz (2 ^ sz) r w k2 w2 := ⟨S2, ol2, en2, hF2, fun x hx => by
          rcases hM2 x hx with h | h
          · exact HS.out x h
          · exact Nat.le_trans HB.out.size h, HB.out.trans (hC2.below HB.out.size HS.out)⟩
        have HW := Lib.hid hnew
        clear hF2 hC2 hM2 hnew c8 c9 c10 ho
        go_wp2_with fail
        go_roundg k2
        case measure => exact hk2
        case rel => exact HW.out
  · have hm' : mayB size most = false := by simpa using hm
    have hv := lzwV_no b n size most hm'
    rw [hv]
    clear hv hm
    go_enter Try.func12, Try.ntmps12
    go_wp2_with fail
    refine (newr_no A n cap b hn hmax hz hsmall size most hm' _ hP).mono ?_
    rintro e w1 ⟨g, rfl, ⟨c8, c9, c10, c0⟩, hB⟩
    have HB := Lib.hid hB
    clear hB
    go_wp2_with fail
    go_loopg [] 0 (fun k wr => Hid (wr = w1))
    case atStart => exact Lib.hid rfl
    case round =>
      obtain rfl := hrel.out
      go_wp2_with fail
      refine (done_r g true _ c9).mono ?_
      rintro e w' ⟨rfl, rfl⟩
      go_wp2_with fail
      refine (out_yes g 0 (.slice none 0 0) [] (by simp) _ c9 c8 (World.ownsRow_nil _ _ _ _)).mono ?_
      rintro e w2 ⟨A2, cap2, rfl, hN, hB2⟩
      have c10' := (hB2.cell (p := ⟨g, 10, none⟩) (lt_of_cell c10)).trans c10
      have hN2 : NewB w.heap.size w2 0 A2 cap2 (gz []) := ⟨hN.le, hN.max, hN.nil, hN.byt, (fun a ha => Nat.le_trans HB.out.size (hN.far a ha)), hN.lt, hN.form⟩
      have HN := Lib.hid hN2
      have HB2 := Lib.hid (HB.out.trans (hB2.mono HB.out.size))
      clear hN hB2 hN2 c8 c9 c10 c0
      go_wp2_with fail
      refine (err_r g 1 _ c10').mono ?_
      rintro e w3 ⟨rfl, rfl⟩
      go_wp2
      go_ret2
      exact ⟨A2, cap2, rfl, HN.out, HB2.out⟩
end Go.Proofs.Ytioghgnngdcicaa
