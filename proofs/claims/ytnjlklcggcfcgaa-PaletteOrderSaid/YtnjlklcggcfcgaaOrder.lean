/- PaletteOrder: the walk. -/
import Derived.Test.YtnjlklcggcfcgaaPlOr
import Derived.StillTailTactics
namespace Go.Proofs.Ytnjlklcggcfcgaa
set_option linter.unusedVariables false
open Go.ChangeShapes Go.WideShapes Go.ChangeAt Go.RowKit

theorem grown_sd {wo W : World} {g i : Nat} {v : Value} (h : wo.grownBy W (some g)) : wo.grownBy (W.setCell ⟨g, i, none⟩ v).drew (some g) :=
  ⟨h.os, h.tape, h.output, by simpa [World.setCell] using h.size, fun k hk hne => (Below.heap_setCell W _ v k (fun e => hne (by rw [e]))).trans (h.block k hk hne)⟩
theorem ren_val (t x : Nat) : Value.int .u16 (((x : Int) / 257 + (t : Int)) % 256 * 257) = Value.int .u16 ((ren t x : Nat) : Int) := by
  unfold ren
  congr 1
theorem meas4 {N k : Nat} (h : k < N) : 4 * N - (intOf (.int .i64 (((4 * (k + 1) : Nat)) : Int))).toNat < 4 * N - (intOf (.int .i64 ((4 * k : Nat) : Int))).toNat := by simp [intOf]; omega
set_option maxRecDepth 100000 in
set_option maxHeartbeats 400000 in
theorem order_walk (a b : Int) (A : Option Addr) (n cap : Nat) (c : Nat → Nat) (hc : ∀ i, c i < 65536) (t : Nat) (ht : t < 256) (ha : In64 a) (hb : In64 b) (hn : n ≤ cap) (hmax : cap ≤ maxLen) (hz : A = none → cap = 0) (w : World) (hP : Pix w A n c) :
    Calls Try.prog 8 #[.agg #[.int .i64 a, .int .i64 b, .slice A n cap], .int .u8 (t : Nat)] w fun e w' => e = .returned (.bool true) ∧ Below w.heap.size w w' := by
  have HC := Lib.hid hc
  clear hc
  have HW := Lib.hid (Below.refl w.heap.size w)
  have HP0 := Lib.hid hP
  have bP := hp_new0 (w) (.cells #[.int .i64 a, .int .i64 b, .slice A n cap] 24)
  replace hP := hP.below ((Below.refl _ (w)).alloc (Nat.le_refl _) (.cells #[.int .i64 a, .int .i64 b, .slice A n cap] 24))
  replace HW := Lib.hid (HW.out.alloc HW.out.size (.cells #[.int .i64 a, .int .i64 b, .slice A n cap] 24))
  go_enter Try.func8, Try.ntmps8
  go_wp2_with fail
  refine (awake10 _).mono ?_
  rintro e w1 ⟨rfl, hB⟩
  replace bP := hp_below bP hB (Array.getElem?_eq_some_iff.1 bP).1
  replace hP := hP.below hB
  replace HW := Lib.hid (HW.out.trans (hB.mono HW.out.size))
  clear hB
  have kP_0 := hp_cell (j := 0) bP rfl
  have kP_1 := hp_cell (j := 1) bP rfl
  have kP_2 := hp_cell (j := 2) bP rfl
  unfold maxLen at hmax
  by_cases h8 : 6000 < n
  · have t8 : decide ((6000 : Int) < (n : Int)) = true := by simp; omega
    go_wp2
    go_ret
    exact ⟨rfl, HW.out⟩
  have t8 : decide ((6000 : Int) < (n : Int)) = false := by simp; omega
  go_wp2_with fail
  refine (fits_ref a b A n cap c 2 HC.out ha hb (by unfold In64; omega) hn (by unfold maxLen; omega) _ hP).mono ?_
  rintro e w2 ⟨rfl, hB⟩
  clear kP_0 kP_1 kP_2
  replace bP := hp_below bP hB (Array.getElem?_eq_some_iff.1 bP).1
  replace hP := hP.below hB
  replace HW := Lib.hid (HW.out.trans (hB.mono HW.out.size))
  clear hB
  have kP_0 := hp_cell (j := 0) bP rfl
  have kP_1 := hp_cell (j := 1) bP rfl
  have kP_2 := hp_cell (j := 2) bP rfl
  cases hf : fitsB a b n c 2 with
  | false =>
    go_wp2
    go_ret
    exact ⟨rfl, HW.out⟩
  | true =>
    have hm0 := fits_may hf
    obtain ⟨a1, b1, N, e1, e2, rfl, hN1, hN2, e3⟩ := may_nat hm0
    clear e1 e2 e3 a1 b1 hm0
    obtain ⟨hmy, hok, h257, hU⟩ := fit_ok HC.out hf
    have HF := Lib.hid hf
    have HF2 := Lib.hid (order_fits ht HC.out hf)
    have HO1 := Lib.hid (order_pl ht HC.out h257)
    have HO2 := Lib.hid (order_U ht HC.out h257)
    have HCM := Lib.hid (clear_map t (U c N))
    have h256 := Lib.hid h257
    clear h257 hf hmy hok
    have t8b : decide ((6000 : Int) < 4 * (N : Int)) = false := by simp; omega
    have hw02 := lt_heap bP
    go_wp2_with fail
    refine (copy_ref a b A (4 * N) cap c hn (by unfold maxLen; omega) hz (by omega) _ hP).mono ?_
    rintro e w3 ⟨⟨A2, cap2, rfl, hN2r⟩, hB⟩
    clear kP_0 kP_1 kP_2
    replace bP := hp_below bP hB (Array.getElem?_eq_some_iff.1 bP).1
    replace hP := hP.below hB
    replace HW := Lib.hid (HW.out.trans (hB.mono HW.out.size))
    clear hB
    obtain ⟨hn2, hm2, hz2, hO⟩ := hN2r
    obtain ⟨gq, cur, rfl, hgB, hg, hgs, hgc⟩ := hO (by omega)
    replace bP := hp_alloc (.cells #[.int .i64 a, .int .i64 b, .slice (some ⟨gq, 0, none⟩) (4 * N) cap2] 24) bP
    have bQ := hp_new0 (w3) (.cells #[.int .i64 a, .int .i64 b, .slice (some ⟨gq, 0, none⟩) (4 * N) cap2] 24)
    replace hP := hP.below ((Below.refl _ (w3)).alloc (Nat.le_refl _) (.cells #[.int .i64 a, .int .i64 b, .slice (some ⟨gq, 0, none⟩) (4 * N) cap2] 24))
    replace HW := Lib.hid (HW.out.alloc HW.out.size (.cells #[.int .i64 a, .int .i64 b, .slice (some ⟨gq, 0, none⟩) (4 * N) cap2] 24))
    have hgl := lt_heap hg
    replace hg := hp_alloc (.cells #[.int .i64 a, .int .i64 b, .slice (some ⟨gq, 0, none⟩) (4 * N) cap2] 24) hg
    clear hO
    unfold maxLen at hm2
    have kP_0 := hp_cell (j := 0) bP rfl
    have kP_1 := hp_cell (j := 1) bP rfl
    have kP_2 := hp_cell (j := 2) bP rfl
    have kQ_0 := hp_cell (j := 0) bQ rfl
    have kQ_1 := hp_cell (j := 1) bQ rfl
    have kQ_2 := hp_cell (j := 2) bQ rfl
    go_wp2_with fail
    clear kP_0 kP_1 kP_2 kQ_0 kQ_1 kQ_2
    generalize hwo : (w3).alloc (.cells #[.int .i64 a, .int .i64 b, .slice (some ⟨gq, 0, none⟩) (4 * N) cap2] 24) = wo at *
    clear hwo
    have hgw : gq < wo.heap.size := lt_heap hg
    have hcur0 : ∀ j, j < 4 * N → cur[j]? = some (.int .u16 (renC t c 0 j : Nat)) := fun j hj => by rw [renC_zero]; exact hgc j hj
    have hws2 := HW.out.size
    have hww : w.heap.size < gq := Nat.lt_of_lt_of_le hw02 hgB
    go_loopw [6] (fun x wr => ∃ (k : Nat) (cur' : Array Value), k ≤ N ∧ x = .int .i64 ((4 * k : Nat) : Int) ∧ wr.heap[gq]? = some (.cells cur' 46 (0, 0)) ∧ 4 * N ≤ cur'.size ∧ (∀ j, j < 4 * N → cur'[j]? = some (.int .u16 (renC t c k j : Nat))) ∧ wo.grownBy wr (some gq)) (fun x _ => 4 * N - (intOf x).toNat)
    case atStart => exact ⟨0, cur, by omega, rfl, hg, hgs, hcur0, ⟨rfl, rfl, rfl, Nat.le_refl _, fun _ _ _ => rfl⟩⟩
    case round =>
      obtain ⟨k, cur2, hk, rfl, hg2, hgs2, hgc2, hgr⟩ := hrel
      have nQ : wo.heap.size = wo.heap.size := rfl
      have bQ2 := (hgr.block _ (lt_heap bQ) (fun e => by injection e with e; omega)).trans bQ
      have kq0 := hp_cell (j := 0) bQ2 rfl
      have kq1 := hp_cell (j := 1) bQ2 rfl
      have kq2 := hp_cell (j := 2) bQ2 rfl
      by_cases hlt : k < N
      · have c3 : wr.cell? ⟨gq, 4 * k + 3, none⟩ = some (.int .u16 (c (4 * k + 3) : Nat)) := by
          have h1 := hp_cell hg2 (hgc2 (4 * k + 3) (by omega))
          rw [h1]
          unfold renC
          rw [if_neg (by omega)]
        have c0 : wr.cell? ⟨gq, 4 * k, none⟩ = some (.int .u16 (c (4 * k) : Nat)) := by
          have h1 := hp_cell hg2 (hgc2 (4 * k) (by omega))
          rw [h1]
          unfold renC
          rw [if_neg (by omega)]
        have ff : ∀ j, wr.frozen? ⟨gq, j, none⟩ = false := fun j => by simp [World.frozen?, hg2]
        have HG := Lib.hid hg2
        have HS := Lib.hid hgc2
        have HGR := Lib.hid hgr
        clear hg2 hgc2 hgr
        have hb0 := HC.out (4 * k)
        have hi1 : (0 : Int) ≤ 4 * (k : Int) := by omega
        have hi2 : (4 : Int) * (k : Int) < 4 * (N : Int) := by omega
        have hi3 : 4 * k < 4 * N := by omega
        have htn : ((4 : Int) * (k : Int)).toNat = 4 * k := by omega
        have hi4 : (4 : Int) * (k : Int) + 3 < 4 * (N : Int) := by omega
        obtain ⟨x, hx⟩ : ∃ x, x = c (4 * k) := ⟨_, rfl⟩
        rw [← hx] at c0 hb0
        by_cases h65 : c (4 * k + 3) = 65535
        · have t65 : (((c (4 * k + 3) : Nat) : Int) == 65535) = true := beq_iff_eq.2 (by rw [h65]; rfl)
          go_wp2_with fail
          go_still_tail 15, (by kernel_rfl)
          change wpList _ _ _ _ _ wr.drew
          go_wp2_with fail
          go_roundw
          case rel =>
            refine ⟨k + 1, cur2.setIfInBounds (4 * k) (.int .u16 ((ren t (c (4 * k)) : Nat) : Int)), hlt, by go_num, ?_, by simpa using hgs2, fun j hj => ?_, grown_sd HGR.out⟩
            · rw [ren_val]
              exact heap_set HG.out
            · rw [renC_succ, Array.getElem?_setIfInBounds]
              by_cases e : j = 4 * k
              · subst e
                rw [if_pos rfl, if_pos (by omega), if_pos ⟨rfl, h65⟩]
              · rw [if_neg (fun h => e h.symm), if_neg (fun h => e h.1)]
                exact HS.out j hj
          case measure => simp [intOf]; omega
        · have t65 : (((c (4 * k + 3) : Nat) : Int) == 65535) = false := by rw [beq_eq_false_iff_ne]; omega
          go_wp2_with fail
          go_roundw
          case rel => exact ⟨k + 1, cur2, hlt, by go_num, HG.out, hgs2, fun j hj => by rw [HS.out j hj, renC_succ, if_neg (fun h => h65 h.2)], HGR.out⟩
          case measure => simp [intOf]; omega
      · obtain rfl : N = k := by omega
        have hBw : Below w.heap.size w wr := HW.out.grown hgr hws2 (fun r e => by injection e with e; have h1 := hww; omega)
        have bP2 := (hgr.block _ (lt_heap bP) (fun e => by injection e with e; have h1 := hww; omega)).trans bP
        have hg3 := hg2
        have hPw := HP0.out.below hBw
        obtain ⟨bk, off, rfl, hbk, hcl⟩ := hPw (by omega)
        have HCL := Lib.hid hcl
        have HPQ := Lib.hid (show Pix wr (some ⟨gq, 0, none⟩) (4 * N) (renC t c N) from fun _ => ⟨gq, 0, rfl, lt_heap hg2, fun j hj => by rw [Nat.zero_add]; exact hp_cell hg2 (hgc2 j hj)⟩)
        replace HW := Lib.hid hBw
        clear hcl hg3 hBw hgr hPw bP bQ hg hgs hgc hcur0 hgc2 hg2 kq0 kq1 kq2
        have bP := bP2
        have bQ := bQ2
        have kP_0 := hp_cell (j := 0) bP rfl
        have kP_1 := hp_cell (j := 1) bP rfl
        have kP_2 := hp_cell (j := 2) bP rfl
        have kQ_0 := hp_cell (j := 0) bQ rfl
        have kQ_1 := hp_cell (j := 1) bQ rfl
        have kQ_2 := hp_cell (j := 2) bQ rfl
        go_wp2_with fail
        refine (make_yes a b bk off cap c HC.out N ha hb HF.out hN1 hN2 hn (by unfold maxLen; omega) _ hbk HCL.out).mono ?_
        rintro e w5 ⟨⟨v, u, rfl, hv, hu⟩, hB⟩
        clear kP_0 kP_1 kP_2 kQ_0 kQ_1 kQ_2
        replace bP := hp_below bP hB (Array.getElem?_eq_some_iff.1 bP).1
        replace bQ := hp_below bQ hB (Array.getElem?_eq_some_iff.1 bQ).1
        replace HW := Lib.hid (HW.out.trans (hB.mono HW.out.size))
        have hPQ5 := HPQ.out.below hB
        clear hB hbk
        obtain ⟨Av, cv, rfl, hv1, hv2, hV⟩ := sl_of_own hv
        obtain ⟨Au, cu, rfl, hu1, hu2, hU8⟩ := byt_of_own hu
        clear hv hu
        replace bP := hp_alloc (.cells #[.slice Av (U c N).length cv, .int .i64 (clearIx (U c N))] 28) bP
        replace bQ := hp_alloc (.cells #[.slice Av (U c N).length cv, .int .i64 (clearIx (U c N))] 28) bQ
        have bS := hp_new0 (w5) (.cells #[.slice Av (U c N).length cv, .int .i64 (clearIx (U c N))] 28)
        replace hU8 := hU8.below ((Below.refl _ (w5)).alloc (Nat.le_refl _) (.cells #[.slice Av (U c N).length cv, .int .i64 (clearIx (U c N))] 28))
        replace hPQ5 := hPQ5.below ((Below.refl _ (w5)).alloc (Nat.le_refl _) (.cells #[.slice Av (U c N).length cv, .int .i64 (clearIx (U c N))] 28))
        replace HW := Lib.hid (HW.out.alloc HW.out.size (.cells #[.slice Av (U c N).length cv, .int .i64 (clearIx (U c N))] 28))
        have kP_0 := hp_cell (j := 0) bP rfl
        have kP_1 := hp_cell (j := 1) bP rfl
        have kP_2 := hp_cell (j := 2) bP rfl
        have kQ_0 := hp_cell (j := 0) bQ rfl
        have kQ_1 := hp_cell (j := 1) bQ rfl
        have kQ_2 := hp_cell (j := 2) bQ rfl
        have kS_0 := hp_cell (j := 0) bS rfl
        have kS_1 := hp_cell (j := 1) bS rfl
        obtain ⟨_, _, he, hbk, hcl⟩ := hPQ5 (by omega)
        cases he
        have HCL2 := Lib.hid hcl
        clear hcl
        clear hPQ5
        go_wp2_with fail
        refine (make_yes a b gq 0 cap2 (renC t c N) (renC_lt HC.out N) N ha hb HF2.out hN1 hN2 hn2 (by unfold maxLen; omega) _ hbk HCL2.out).mono ?_
        rintro e w6 ⟨⟨v, u, rfl, hv, hu⟩, hB⟩
        clear kP_0 kP_1 kP_2 kQ_0 kQ_1 kQ_2 kS_0 kS_1
        replace bP := hp_below bP hB (Array.getElem?_eq_some_iff.1 bP).1
        replace bQ := hp_below bQ hB (Array.getElem?_eq_some_iff.1 bQ).1
        replace bS := hp_below bS hB (Array.getElem?_eq_some_iff.1 bS).1
        replace hU8 := hU8.below hB
        replace HW := Lib.hid (HW.out.trans (hB.mono HW.out.size))
        clear hB
        clear hbk
        rw [HO1.out] at hu
        rw [HO2.out] at hv ⊢
        rw [HCM.out]
        obtain ⟨Av2, cv2, rfl, hv3, hv4, hV2⟩ := sl_of_own hv
        obtain ⟨Au2, cu2, rfl, hu3, hu4, hU9⟩ := byt_of_own hu
        clear hv hu
        have hml : ((U c N).map (renP t)).length = (U c N).length := List.length_map _
        rw [hml] at *
        replace bP := hp_alloc (.cells #[.slice Av2 (U c N).length cv2, .int .i64 (clearIx (U c N))] 28) bP
        replace bQ := hp_alloc (.cells #[.slice Av2 (U c N).length cv2, .int .i64 (clearIx (U c N))] 28) bQ
        replace bS := hp_alloc (.cells #[.slice Av2 (U c N).length cv2, .int .i64 (clearIx (U c N))] 28) bS
        have bR := hp_new0 (w6) (.cells #[.slice Av2 (U c N).length cv2, .int .i64 (clearIx (U c N))] 28)
        replace hU8 := hU8.below ((Below.refl _ (w6)).alloc (Nat.le_refl _) (.cells #[.slice Av2 (U c N).length cv2, .int .i64 (clearIx (U c N))] 28))
        replace HW := Lib.hid (HW.out.alloc HW.out.size (.cells #[.slice Av2 (U c N).length cv2, .int .i64 (clearIx (U c N))] 28))
        replace hU9 := hU9.below ((Below.refl _ w6).alloc (Nat.le_refl _) (.cells #[.slice Av2 (U c N).length cv2, .int .i64 (clearIx (U c N))] 28))
        have kP_0 := hp_cell (j := 0) bP rfl
        have kP_1 := hp_cell (j := 1) bP rfl
        have kP_2 := hp_cell (j := 2) bP rfl
        have kQ_0 := hp_cell (j := 0) bQ rfl
        have kQ_1 := hp_cell (j := 1) bQ rfl
        have kQ_2 := hp_cell (j := 2) bQ rfl
        have kS_0 := hp_cell (j := 0) bS rfl
        have kS_1 := hp_cell (j := 1) bS rfl
        have kR_0 := hp_cell (j := 0) bR rfl
        have kR_1 := hp_cell (j := 1) bR rfl
        have hs : (convert 29 9 (.slice Au N cu)).run Try.prog ((w6).alloc (.cells #[.slice Av2 (U c N).length cv2, .int .i64 (clearIx (U c N))] 28)) = .ok (.string (strB N (byteAt (pl c N)))) ((w6).alloc (.cells #[.slice Av2 (U c N).length cv2, .int .i64 (clearIx (U c N))] 28)) := run_str hU8
        have hs2 : (convert 29 9 (.slice Au2 N cu2)).run Try.prog ((w6).alloc (.cells #[.slice Av2 (U c N).length cv2, .int .i64 (clearIx (U c N))] 28)) = .ok (.string (strB N (byteAt (pl c N)))) ((w6).alloc (.cells #[.slice Av2 (U c N).length cv2, .int .i64 (clearIx (U c N))] 28)) := run_str hU9
        have ess : (strB N (byteAt (pl c N)) == strB N (byteAt (pl c N))) = true := ba_beq _
        have ecc : (clearIx (U c N) == clearIx (U c N)) = true := by simp
        have ell : (((U c N).length : Int) == ((U c N).length : Int)) = true := by simp
        go_wp2
        go_ret
        exact ⟨rfl, HW.out⟩
end Go.Proofs.Ytnjlklcggcfcgaa
