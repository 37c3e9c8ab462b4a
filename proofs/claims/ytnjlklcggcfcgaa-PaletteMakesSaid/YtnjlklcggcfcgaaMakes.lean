/- PaletteMakes: the walk. -/
import Derived.Test.YtnjlklcggcfcgaaAw10
namespace Go.Proofs.Ytnjlklcggcfcgaa
set_option linter.unusedVariables false
open Go.ChangeShapes Go.WideShapes Go.ChangeAt Go.RowKit

set_option maxRecDepth 100000 in
set_option maxHeartbeats 1000000 in
theorem same_cols (L : List P4) (A1 A2 : Option Addr) (cap1 cap2 : Nat) (h1 : L.length ≤ cap1) (h2 : cap1 ≤ maxLen) (h3 : L.length ≤ cap2) (h4 : cap2 ≤ maxLen) (w : World)
    (hS1 : Sl w (.slice A1 L.length cap1) 4 L.length (cellsP L)) (hS2 : Sl w (.slice A2 L.length cap2) 4 L.length (cellsP L)) :
    Calls Try.prog 12 #[.slice A1 L.length cap1, .slice A2 L.length cap2] w fun e w' => e = .returned (.bool true) ∧ Below w.heap.size w w' := by
  unfold maxLen at h2 h4
  have e1 : ((L.length : Int) == (L.length : Int)) = true := by simp
  go_enter Try.func12, Try.ntmps12
  go_wp2_with fail
  go_loopw [5] (fun x wr => ∃ k : Nat, k ≤ L.length ∧ x = .int .i64 k ∧ Below w.heap.size w wr) (fun x _ => L.length - (intOf x).toNat)
  case atStart => exact ⟨0, by omega, rfl, Below.refl _ _⟩
  case round =>
    obtain ⟨k, hk, rfl, hB⟩ := hrel
    by_cases hlt : k < L.length
    · obtain ⟨q, hq⟩ : ∃ q, L[k]? = some q := ⟨L[k], List.getElem?_eq_getElem hlt⟩
      obtain ⟨gb, go, he, hgl, hgc⟩ := (hS1.below hB).cell (by omega)
      subst he
      obtain ⟨gb2, go2, he, hgl2, hgc2⟩ := (hS2.below hB).cell (by omega)
      subst he
      have hqc : ∀ j, j < 4 → wr.cell? ⟨gb, go + k * 4 + j, none⟩ = (cP q)[j]? := fun j hj => by
        rw [Nat.add_assoc, hgc (k * 4 + j) (by omega), cellsP_get L k q hq j hj]
      have hqd : ∀ j, j < 4 → wr.cell? ⟨gb2, go2 + k * 4 + j, none⟩ = (cP q)[j]? := fun j hj => by
        rw [Nat.add_assoc, hgc2 (k * 4 + j) (by omega), cellsP_get L k q hq j hj]
      have c0 : wr.cell? ⟨gb, go + k * 4, none⟩ = some (.int .u16 (q.1 : Nat)) := hqc 0 (by omega)
      have c1 : wr.cell? ⟨gb, go + k * 4 + 1, none⟩ = some (.int .u16 (q.2.1 : Nat)) := hqc 1 (by omega)
      have c2 : wr.cell? ⟨gb, go + k * 4 + 2, none⟩ = some (.int .u16 (q.2.2.1 : Nat)) := hqc 2 (by omega)
      have c3 : wr.cell? ⟨gb, go + k * 4 + 3, none⟩ = some (.int .u16 (q.2.2.2 : Nat)) := hqc 3 (by omega)
      have d0 : wr.cell? ⟨gb2, go2 + k * 4, none⟩ = some (.int .u16 (q.1 : Nat)) := hqd 0 (by omega)
      have d1 : wr.cell? ⟨gb2, go2 + k * 4 + 1, none⟩ = some (.int .u16 (q.2.1 : Nat)) := hqd 1 (by omega)
      have d2 : wr.cell? ⟨gb2, go2 + k * 4 + 2, none⟩ = some (.int .u16 (q.2.2.1 : Nat)) := hqd 2 (by omega)
      have d3 : wr.cell? ⟨gb2, go2 + k * 4 + 3, none⟩ = some (.int .u16 (q.2.2.2 : Nat)) := hqd 3 (by omega)
      have hE := fun W => run_eqP q q W
      rw [show decide (q = q) = true from by simp] at hE
      have hd : decide (k < L.length) = true := by simpa using hlt
      clear hq hqc hqd hgc hgc2
      go_wp2_with fail
      go_quiet (fail)
      go_wp2_with fail
      go_roundw
      case rel => exact ⟨k + 1, by omega, by go_num, below_drewN hB _⟩
      case measure => simp [intOf]; omega
    · obtain rfl : k = L.length := by omega
      go_wp2_with fail
      go_ret
      exact ⟨rfl, hB⟩
-- WALK
set_option maxRecDepth 100000 in
set_option maxHeartbeats 1000000 in
theorem makes_walk (a b : Int) (A : Option Addr) (n cap : Nat) (c : Nat → Nat) (hc : ∀ i, c i < 65536) (n2 : Int) (hn2 : In64 n2) (ha : In64 a) (hb : In64 b) (hn : n ≤ cap) (hmax : cap ≤ maxLen) (w : World) (hP : Pix w A n c) :
    Calls Try.prog 3 #[.agg #[.int .i64 a, .int .i64 b, .slice A n cap], .int .i64 n2] w fun e w' => e = .returned (.bool true) ∧ Below w.heap.size w w' := by
  have HC := Lib.hid hc
  clear hc
  have HW := Lib.hid (Below.refl w.heap.size w)
  have bP := hp_new0 (w) (.cells #[.int .i64 a, .int .i64 b, .slice A n cap] 24)
  replace hP := hP.below ((Below.refl _ (w)).alloc (Nat.le_refl _) (.cells #[.int .i64 a, .int .i64 b, .slice A n cap] 24))
  replace HW := Lib.hid (HW.out.alloc HW.out.size (.cells #[.int .i64 a, .int .i64 b, .slice A n cap] 24))
  go_enter Try.func3, Try.ntmps3
  go_wp2_with fail
  refine (awake10 _).mono ?_
  rintro e w1 ⟨rfl, hB⟩
  replace bP := hp_below bP hB (Array.getElem?_eq_some_iff.1 bP).1
  replace hP := hP.below hB
  replace HW := Lib.hid (HW.out.trans (hB.mono HW.out.size))
  clear hB
  have kP_0 := hp_cell (j := 0) bP rfl
  have kP_1 := hp_cell (j := 1) bP rfl
  have kP_2 := hp_cell (j := 2) bP rfl
  unfold maxLen at hmax
  by_cases h8 : 8000 < n
  · have t8 : decide ((8000 : Int) < (n : Int)) = true := by simp; omega
    go_wp2
    go_ret
    exact ⟨rfl, HW.out⟩
  have t8 : decide ((8000 : Int) < (n : Int)) = false := by simp; omega
  cases hf : fitsB a b n c 2 with
  | false =>
    have HF := Lib.hid hf
    clear hf
    go_wp2_with fail
    refine (make_no a b A n cap c HC.out ha hb HF.out hn (by unfold maxLen; omega) _ hP).mono ?_
    rintro e w2 ⟨rfl, hB⟩
    clear kP_0 kP_1 kP_2
    replace bP := hp_below bP hB (Array.getElem?_eq_some_iff.1 bP).1
    replace hP := hP.below hB
    replace HW := Lib.hid (HW.out.trans (hB.mono HW.out.size))
    clear hB
    replace bP := hp_alloc (.cells #[.slice none 0 0, .int .i64 0] 28) bP
    have bQ := hp_new0 (w2) (.cells #[.slice none 0 0, .int .i64 0] 28)
    replace hP := hP.below ((Below.refl _ (w2)).alloc (Nat.le_refl _) (.cells #[.slice none 0 0, .int .i64 0] 28))
    replace HW := Lib.hid (HW.out.alloc HW.out.size (.cells #[.slice none 0 0, .int .i64 0] 28))
    have kP_0 := hp_cell (j := 0) bP rfl
    have kP_1 := hp_cell (j := 1) bP rfl
    have kP_2 := hp_cell (j := 2) bP rfl
    have kQ_0 := hp_cell (j := 0) bQ rfl
    have kQ_1 := hp_cell (j := 1) bQ rfl
    go_wp2_with fail
    refine (maker_no a b A n cap c HC.out ha hb HF.out hn (by unfold maxLen; omega) _ hP).mono ?_
    rintro e w3 ⟨rfl, hB⟩
    clear kP_0 kP_1 kP_2 kQ_0 kQ_1
    replace bP := hp_below bP hB (Array.getElem?_eq_some_iff.1 bP).1
    replace bQ := hp_below bQ hB (Array.getElem?_eq_some_iff.1 bQ).1
    replace hP := hP.below hB
    replace HW := Lib.hid (HW.out.trans (hB.mono HW.out.size))
    clear hB
    replace bP := hp_alloc (.cells #[.slice none 0 0, .int .i64 0] 32) bP
    replace bQ := hp_alloc (.cells #[.slice none 0 0, .int .i64 0] 32) bQ
    have bS := hp_new0 (w3) (.cells #[.slice none 0 0, .int .i64 0] 32)
    replace hP := hP.below ((Below.refl _ (w3)).alloc (Nat.le_refl _) (.cells #[.slice none 0 0, .int .i64 0] 32))
    replace HW := Lib.hid (HW.out.alloc HW.out.size (.cells #[.slice none 0 0, .int .i64 0] 32))
    have kP_0 := hp_cell (j := 0) bP rfl
    have kP_1 := hp_cell (j := 1) bP rfl
    have kP_2 := hp_cell (j := 2) bP rfl
    have kQ_0 := hp_cell (j := 0) bQ rfl
    have kQ_1 := hp_cell (j := 1) bQ rfl
    have kS_0 := hp_cell (j := 0) bS rfl
    have kS_1 := hp_cell (j := 1) bS rfl
    have hs0 : (convert 29 9 (.slice none 0 0)).run Try.prog ((w3).alloc (.cells #[.slice none 0 0, .int .i64 0] 32)) = .ok (.string (strB 0 c)) ((w3).alloc (.cells #[.slice none 0 0, .int .i64 0] 32)) := run_str (fun h => absurd h (by omega))
    go_wp2_with fail
    refine (same_cols [] none none 0 0 (by simp) (by unfold maxLen; omega) (by simp) (by unfold maxLen; omega) _ (Sl.nil _ 4) (Sl.nil _ 4)).mono ?_
    rintro e w4 ⟨rfl, hB⟩
    clear kP_0 kP_1 kP_2 kQ_0 kQ_1 kS_0 kS_1
    replace bP := hp_below bP hB (Array.getElem?_eq_some_iff.1 bP).1
    replace bQ := hp_below bQ hB (Array.getElem?_eq_some_iff.1 bQ).1
    replace bS := hp_below bS hB (Array.getElem?_eq_some_iff.1 bS).1
    replace hP := hP.below hB
    replace HW := Lib.hid (HW.out.trans (hB.mono HW.out.size))
    clear hB
    have kP_0 := hp_cell (j := 0) bP rfl
    have kP_1 := hp_cell (j := 1) bP rfl
    have kP_2 := hp_cell (j := 2) bP rfl
    have kQ_0 := hp_cell (j := 0) bQ rfl
    have kQ_1 := hp_cell (j := 1) bQ rfl
    have kS_0 := hp_cell (j := 0) bS rfl
    have kS_1 := hp_cell (j := 1) bS rfl
    clear hs0
    go_wp2_with fail
    refine (bits_prog n2 hn2 _).mono ?_
    rintro e w5 ⟨rfl, rfl⟩
    go_wp2_with fail
    refine (bits_ref n2 hn2 _).mono ?_
    rintro e w6 ⟨rfl, rfl⟩
    have e5 : (bitsV n2 == bitsV n2) = true := by simp
    go_wp2
    go_ret
    exact ⟨rfl, HW.out⟩
  | true =>
    have hm := fits_may hf
    obtain ⟨a1, b1, N, e1, e2, rfl, hN1, hN2, e3⟩ := may_nat hm
    clear e1 e2 e3 a1 b1
    have HF := Lib.hid hf
    clear hf hm
    obtain ⟨bk, off, rfl, hbk, hcl⟩ := hP (by omega)
    have HP2 := Lib.hid hcl
    clear hcl
    have t8b : decide ((8000 : Int) < 4 * (N : Int)) = false := by simp; omega
    go_wp2_with fail
    refine (make_yes a b bk off cap c HC.out N ha hb HF.out hN1 hN2 hn (by unfold maxLen; omega) _ hbk HP2.out).mono ?_
    rintro e w2 ⟨⟨v, u, rfl, hv, hu⟩, hB⟩
    clear kP_0 kP_1 kP_2
    replace bP := hp_below bP hB (Array.getElem?_eq_some_iff.1 bP).1
    replace hP := hP.below hB
    replace HW := Lib.hid (HW.out.trans (hB.mono HW.out.size))
    clear hB
    obtain ⟨L, hL⟩ : ∃ L, L = U c N := ⟨_, rfl⟩
    rw [← hL] at hv ⊢
    have HL := Lib.hid hL
    clear hL
    clear hbk
    obtain ⟨Av, cv, rfl, hv1, hv2, hV⟩ := sl_of_own hv
    obtain ⟨Au, cu, rfl, hu1, hu2, hU⟩ := byt_of_own hu
    clear hv hu
    replace bP := hp_alloc (.cells #[.slice Av L.length cv, .int .i64 (clearIx L)] 28) bP
    have bQ := hp_new0 (w2) (.cells #[.slice Av L.length cv, .int .i64 (clearIx L)] 28)
    replace hP := hP.below ((Below.refl _ (w2)).alloc (Nat.le_refl _) (.cells #[.slice Av L.length cv, .int .i64 (clearIx L)] 28))
    replace hV := hV.below ((Below.refl _ (w2)).alloc (Nat.le_refl _) (.cells #[.slice Av L.length cv, .int .i64 (clearIx L)] 28))
    replace hU := hU.below ((Below.refl _ (w2)).alloc (Nat.le_refl _) (.cells #[.slice Av L.length cv, .int .i64 (clearIx L)] 28))
    replace HW := Lib.hid (HW.out.alloc HW.out.size (.cells #[.slice Av L.length cv, .int .i64 (clearIx L)] 28))
    have kP_0 := hp_cell (j := 0) bP rfl
    have kP_1 := hp_cell (j := 1) bP rfl
    have kP_2 := hp_cell (j := 2) bP rfl
    have kQ_0 := hp_cell (j := 0) bQ rfl
    have kQ_1 := hp_cell (j := 1) bQ rfl
    obtain ⟨_, _, he, hbk, hcl⟩ := hP (by omega)
    cases he
    clear HP2
    have HP2 := Lib.hid hcl
    clear hcl
    go_wp2_with fail
    refine (maker_yes a b bk off cap c HC.out N ha hb HF.out hN1 hN2 hn (by unfold maxLen; omega) _ hbk HP2.out).mono ?_
    rintro e w3 ⟨⟨v, u, rfl, hv, hu⟩, hB⟩
    clear kP_0 kP_1 kP_2 kQ_0 kQ_1
    replace bP := hp_below bP hB (Array.getElem?_eq_some_iff.1 bP).1
    replace bQ := hp_below bQ hB (Array.getElem?_eq_some_iff.1 bQ).1
    replace hP := hP.below hB
    replace hV := hV.below hB
    replace hU := hU.below hB
    replace HW := Lib.hid (HW.out.trans (hB.mono HW.out.size))
    clear hB
    rw [← HL.out] at hv ⊢
    obtain ⟨Av2, cv2, rfl, hv3, hv4, hV2⟩ := sl_of_own hv
    obtain ⟨Au2, cu2, rfl, hu3, hu4, hU2⟩ := byt_of_own hu
    clear hv hu
    replace bP := hp_alloc (.cells #[.slice Av2 L.length cv2, .int .i64 (clearIx L)] 32) bP
    replace bQ := hp_alloc (.cells #[.slice Av2 L.length cv2, .int .i64 (clearIx L)] 32) bQ
    have bS := hp_new0 (w3) (.cells #[.slice Av2 L.length cv2, .int .i64 (clearIx L)] 32)
    replace hP := hP.below ((Below.refl _ (w3)).alloc (Nat.le_refl _) (.cells #[.slice Av2 L.length cv2, .int .i64 (clearIx L)] 32))
    replace hV := hV.below ((Below.refl _ (w3)).alloc (Nat.le_refl _) (.cells #[.slice Av2 L.length cv2, .int .i64 (clearIx L)] 32))
    replace hU := hU.below ((Below.refl _ (w3)).alloc (Nat.le_refl _) (.cells #[.slice Av2 L.length cv2, .int .i64 (clearIx L)] 32))
    replace hV2 := hV2.below ((Below.refl _ (w3)).alloc (Nat.le_refl _) (.cells #[.slice Av2 L.length cv2, .int .i64 (clearIx L)] 32))
    replace hU2 := hU2.below ((Below.refl _ (w3)).alloc (Nat.le_refl _) (.cells #[.slice Av2 L.length cv2, .int .i64 (clearIx L)] 32))
    replace HW := Lib.hid (HW.out.alloc HW.out.size (.cells #[.slice Av2 L.length cv2, .int .i64 (clearIx L)] 32))
    have kP_0 := hp_cell (j := 0) bP rfl
    have kP_1 := hp_cell (j := 1) bP rfl
    have kP_2 := hp_cell (j := 2) bP rfl
    have kQ_0 := hp_cell (j := 0) bQ rfl
    have kQ_1 := hp_cell (j := 1) bQ rfl
    have kS_0 := hp_cell (j := 0) bS rfl
    have kS_1 := hp_cell (j := 1) bS rfl
    have hs : (convert 29 9 (.slice Au N cu)).run Try.prog ((w3).alloc (.cells #[.slice Av2 L.length cv2, .int .i64 (clearIx L)] 32)) = .ok (.string (strB N (byteAt (pl c N)))) ((w3).alloc (.cells #[.slice Av2 L.length cv2, .int .i64 (clearIx L)] 32)) := run_str hU
    have hs2 : (convert 29 9 (.slice Au2 N cu2)).run Try.prog ((w3).alloc (.cells #[.slice Av2 L.length cv2, .int .i64 (clearIx L)] 32)) = .ok (.string (strB N (byteAt (pl c N)))) ((w3).alloc (.cells #[.slice Av2 L.length cv2, .int .i64 (clearIx L)] 32)) := run_str hU2
    have ess : (strB N (byteAt (pl c N)) == strB N (byteAt (pl c N))) = true := ba_beq _
    have ecc : (clearIx L == clearIx L) = true := by simp
    go_wp2_with fail
    refine (same_cols L Av Av2 cv cv2 hv1 hv2 hv3 hv4 _ hV hV2).mono ?_
    rintro e w4 ⟨rfl, hB⟩
    clear kP_0 kP_1 kP_2 kQ_0 kQ_1 kS_0 kS_1
    replace bP := hp_below bP hB (Array.getElem?_eq_some_iff.1 bP).1
    replace bQ := hp_below bQ hB (Array.getElem?_eq_some_iff.1 bQ).1
    replace bS := hp_below bS hB (Array.getElem?_eq_some_iff.1 bS).1
    replace hP := hP.below hB
    replace hV := hV.below hB
    replace hU := hU.below hB
    replace hV2 := hV2.below hB
    replace hU2 := hU2.below hB
    replace HW := Lib.hid (HW.out.trans (hB.mono HW.out.size))
    clear hB
    have kP_0 := hp_cell (j := 0) bP rfl
    have kP_1 := hp_cell (j := 1) bP rfl
    have kP_2 := hp_cell (j := 2) bP rfl
    have kQ_0 := hp_cell (j := 0) bQ rfl
    have kQ_1 := hp_cell (j := 1) bQ rfl
    have kS_0 := hp_cell (j := 0) bS rfl
    have kS_1 := hp_cell (j := 1) bS rfl
    clear hs hs2
    go_wp2_with fail
    refine (bits_prog n2 hn2 _).mono ?_
    rintro e w5 ⟨rfl, rfl⟩
    go_wp2_with fail
    refine (bits_ref n2 hn2 _).mono ?_
    rintro e w6 ⟨rfl, rfl⟩
    have e5 : (bitsV n2 == bitsV n2) = true := by simp
    go_wp2
    go_ret
    exact ⟨rfl, HW.out⟩
end Go.Proofs.Ytnjlklcggcfcgaa
