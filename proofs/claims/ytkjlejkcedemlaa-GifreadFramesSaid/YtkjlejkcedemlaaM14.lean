/- engraverref14.Gif: a GIF file, by the document. engraverlaw14.Same. A picture of one's own: samples set one by one. -/
import Derived.Test.YtkjlejkcedemlaaM13

namespace Go.Proofs.Ytkjlejkcedemlaa
set_option maxRecDepth 100000
set_option linter.unusedVariables false
open Go.ChangeShapes Go.WideShapes Go.ChangeAt Go.RowKit

set_option maxRecDepth 100000 in
set_option maxHeartbeats 4000000 in
theorem gif_ref (A : Option Addr) (m cap : Nat) (b : Nat → Nat) (hbt : ∀ i, b i < 256) (hm : m ≤ cap) (hmax : cap ≤ maxLen) (hA : A = none → cap = 0) (w : World) (hB : Byt w A m b) :
    Calls Try.prog 10 #[.slice A m cap] w (picPost (lowD b 6 2) (lowD b 8 2) (gifG b m) w) := by
  have HB := Lib.hid hB
  have HBT := Lib.hid hbt
  have HMX := Lib.hid hmax
  have HA := Lib.hid hA
  unfold maxLen at hmax
  clear hB hbt hA
  obtain ⟨r, hr⟩ : ∃ r, r = gifG b m := ⟨_, rfl⟩
  rw [← hr]
  unfold gifG at hr
  have x0 := lowD_lt HBT.out 6 2
  have x1 := lowD_lt HBT.out 8 2
  rw [show (256 : Nat) ^ 2 = 65536 from rfl] at x0 x1
  obtain ⟨W, hW⟩ : ∃ W, W = lowD b 6 2 := ⟨_, rfl⟩
  obtain ⟨H, hH⟩ : ∃ H, H = lowD b 8 2 := ⟨_, rfl⟩
  rw [← hW, ← hH] at hr ⊢
  rw [← hW] at x0
  rw [← hH] at x1
  have HW := Lib.hid hW
  have HH := Lib.hid hH
  clear hW hH
  have hr0 := hp_new0 w (.cells #[.int .i64 0, .int .i64 0, .slice none 0 0] 26)
  have hW0 : Below w.heap.size w (w.alloc (.cells #[.int .i64 0, .int .i64 0, .slice none 0 0] 26)) := (Below.refl _ w).alloc (Nat.le_refl _) _
  have l0 := hp_cell (j := 0) hr0 rfl
  have l1 := hp_cell (j := 1) hr0 rfl
  have l2 := hp_cell (j := 2) hr0 rfl
  have lf : ∀ j, (w.alloc (.cells #[.int .i64 0, .int .i64 0, .slice none 0 0] 26)).frozen? ⟨w.heap.size, j, none⟩ = false := fun j => by rw [World.frozen?, hr0]; simp
  have HR0 := Lib.hid hr0
  have HW0 := Lib.hid hW0
  have HBW := Lib.hid (HB.out.below hW0)
  clear hr0 hW0
  have hBel : ∀ (wx : World) (v0 v1 v2 : Value), Below w.heap.size w wx → Below w.heap.size w (((wx.setCell ⟨w.heap.size, 0, none⟩ v0).setCell ⟨w.heap.size, 1, none⟩ v1).setCell ⟨w.heap.size, 2, none⟩ v2) := fun wx v0 v1 v2 h =>
    ((h.setCell (p := ⟨w.heap.size, 0, none⟩) (Nat.le_refl _) _).setCell (p := ⟨w.heap.size, 1, none⟩) (Nat.le_refl _) _).setCell (p := ⟨w.heap.size, 2, none⟩) (Nat.le_refl _) _
  have HBel := Lib.hid hBel
  clear hBel
  go_enter Try.func10, Try.ntmps10
  by_cases e1 : 262144 < m
  · have t1 : decide (262144 < m) = true := by simp; omega
    have t1' : decide ((262144 : Int) < (m : Int)) = true := by simp; omega
    rw [if_pos e1] at hr
    have HE := Lib.hid hr
    clear hr
    go_wp2
    refine bodyPost_ret (v := .tuple #[.agg #[.int .i64 0, .int .i64 0, .slice none 0 0], .int .i64 3]) (by rw [results_cell_tmp rfl]; go_simp) rfl ?_
    rw [HE.out]
    exact ⟨by first | exact HW0.out | exact HBel.out _ _ _ _ HW0.out, .inr ⟨by decide, rfl⟩⟩
  have t1 : decide (262144 < m) = false := by simp; omega
  have t1' : decide ((262144 : Int) < (m : Int)) = false := by simp; omega
  rw [if_neg e1] at hr
  by_cases e2 : m < 13
  · have t2 : decide (m < 13) = true := by simp; omega
    have t2' : decide ((m : Int) < 13) = true := by simp; omega
    rw [if_pos e2] at hr
    have HE := Lib.hid hr
    clear hr
    go_wp2
    refine bodyPost_ret (v := .tuple #[.agg #[.int .i64 0, .int .i64 0, .slice none 0 0], .int .i64 2]) (by rw [results_cell_tmp rfl]; go_simp) rfl ?_
    rw [HE.out]
    exact ⟨by first | exact HW0.out | exact HBel.out _ _ _ _ HW0.out, .inr ⟨by decide, rfl⟩⟩
  have t2 : decide (m < 13) = false := by simp; omega
  have t2' : decide ((m : Int) < 13) = false := by simp; omega
  rw [if_neg e2] at hr
  have hB6 : Byt (w.alloc (.cells #[.int .i64 0, .int .i64 0, .slice none 0 0] 26)) A 6 b := fun _ => by
    obtain ⟨bk, of, h1, h2, h3⟩ := HBW.out (by omega)
    exact ⟨bk, of, h1, h2, fun j hj => h3 j (by omega)⟩
  have hs := run_str (cap := cap) hB6
  have q7 := is87 b HBT.out
  have q9 := is89 b HBT.out
  obtain ⟨T6, hT6⟩ : ∃ T6, T6 = strB 6 b := ⟨_, rfl⟩
  rw [← hT6] at hs q7 q9
  have RH := run_hi A m cap 6 (by omega)
  rw [show ((6 : Nat) : Int) = 6 from rfl] at RH
  clear hB6 hT6
  by_cases e3 : isGif b = false
  · rw [if_pos e3] at hr
    have HE := Lib.hid hr
    unfold isGif at e3
    simp only [decide_eq_false_iff_not] at e3
    rw [decide_eq_false (fun h => e3 ⟨h.1, h.2.1, h.2.2.1, h.2.2.2.1, .inl h.2.2.2.2.1, h.2.2.2.2.2⟩)] at q7
    rw [decide_eq_false (fun h => e3 ⟨h.1, h.2.1, h.2.2.1, h.2.2.2.1, .inr h.2.2.2.2.1, h.2.2.2.2.2⟩)] at q9
    clear hr e3
    go_wp2
    refine bodyPost_ret (v := .tuple #[.agg #[.int .i64 0, .int .i64 0, .slice none 0 0], .int .i64 4]) (by rw [results_cell_tmp rfl]; go_simp) rfl ?_
    rw [HE.out]
    exact ⟨by first | exact HW0.out | exact HBel.out _ _ _ _ HW0.out, .inr ⟨by decide, rfl⟩⟩
  rw [if_neg e3] at hr
  have HE := Lib.hid hr
  clear hr
  have e4 : b 4 = 55 ∨ b 4 = 57 := by
    unfold isGif at e3
    simp only [decide_eq_false_iff_not, Classical.not_not] at e3
    exact e3.2.2.2.2.1
  have e5 : b 0 = 71 ∧ b 1 = 73 ∧ b 2 = 70 ∧ b 3 = 56 ∧ b 5 = 97 := by
    unfold isGif at e3
    simp only [decide_eq_false_iff_not, Classical.not_not] at e3
    exact ⟨e3.1, e3.2.1, e3.2.2.1, e3.2.2.2.1, e3.2.2.2.2.2⟩
  clear e3
  have e7 : (T6.toList == [71, 73, 70, 56, 55, 97]) = decide (b 4 = 55) := by rw [q7]; simp [e5]
  have e9 : (T6.toList == [71, 73, 70, 56, 57, 97]) = decide (b 4 = 57) := by rw [q9]; simp [e5]
  clear q7 q9 e5
  go_upto_region 5 with fail
  go_cut [23] (fun s23 wx => s23 = .bool false ∧ wx = (w.alloc (.cells #[.int .i64 0, .int .i64 0, .slice none 0 0] 26)))
  case first =>
    rcases e4 with e4 | e4
    · rw [decide_eq_true e4] at e7
      rw [decide_eq_false (by omega)] at e9
      clear e4
      go_wp2_with fail
      go_meet
      exact ⟨rfl, rfl⟩
    · rw [decide_eq_false (by omega)] at e7
      rw [decide_eq_true e4] at e9
      clear e4
      go_wp2_with fail
      go_meet
      exact ⟨rfl, rfl⟩
  case rest =>
  obtain ⟨rfl, rfl⟩ := hcut
  clear e7 e9 hs RH e4
  go_wp2_with fail
  generalize w.alloc (.cells #[.int .i64 0, .int .i64 0, .slice none 0 0] 26) = W1 at *
  refine (low_ref A m cap b HBT.out 6 2 (by omega) (by omega) hm HMX.out _ HBW.out).mono ?_
  rintro e wz ⟨rfl, hw⟩
  rw [hw, ← HW.out]
  clear hw wz
  go_wp2_with fail
  refine (low_ref A m cap b HBT.out 8 2 (by omega) (by omega) hm HMX.out _ HBW.out).mono ?_
  rintro e wz ⟨rfl, hw⟩
  rw [hw, ← HH.out]
  clear hw wz
  go_wp2_with fail
  refine (size_ref (W : Nat) (H : Nat) (by unfold In64; omega) (by unfold In64; omega) _).mono ?_
  rintro e wz ⟨rfl, rfl⟩
  have hE := HE.out
  by_cases hz : sizeE (W : Nat) (H : Nat) = 0
  case neg =>
    have t3 : (sizeE (W : Nat) (H : Nat) != 0) = true := by rw [bne_iff_ne]; exact hz
    rw [if_pos hz] at hE
    have HE2 := Lib.hid hE
    clear hE hz
    go_wp2
    refine bodyPost_ret (v := .tuple #[.agg #[.int .i64 0, .int .i64 0, .slice none 0 0], .int .i64 6]) (by rw [results_cell_tmp rfl]; go_simp) rfl ?_
    rw [HE2.out]
    exact ⟨by first | exact HW0.out | exact HBel.out _ _ _ _ HW0.out, .inr ⟨by decide, rfl⟩⟩
  rw [hz]
  rw [if_neg (by rw [hz]; decide)] at hE
  obtain ⟨bk, of, hAe, hbk, hci⟩ := HBW.out (by omega)
  have c10 := hci 10 (by omega)
  have hb8 := HBT.out 10
  obtain ⟨fl, hfl⟩ : ∃ q, q = b 10 := ⟨_, rfl⟩
  rw [← hfl] at hb8 hE c10
  have HZ := Lib.hid hz
  clear hfl hci hbk hz HE
  have HE := Lib.hid hE
  clear hE
  subst hAe
  go_upto_if 48 with fail
  go_cut [6, 7] (fun s6 s7 wx => ∃ (q : Nat) (L2 : List P4), s6 = .int .i64 (q : Nat) ∧ q ≤ m ∧ L2.length ≤ 256 ∧ ColAt W1 s7 L2 wx ∧ Hid (r = partsG b m W H L2 (m + 1) q (-1)))
  case first =>
    by_cases cf : fl / 128 = 1
    · have HE1 := HE.out
      rw [if_pos cf] at HE1
      replace HE1 := Lib.hid HE1
      have f1 := and128 fl hb8
      rw [decide_eq_true cf] at f1
      go_upto_region 14 with fail
      clear f1
      obtain ⟨N, hN⟩ : ∃ N, N = 2 ^ (fl % 8 + 1) := ⟨_, rfl⟩
      have hN1 : N ≤ 256 := by
        rw [hN]
        exact Nat.le_trans (Nat.pow_le_pow_right (by omega) (show fl % 8 + 1 ≤ 8 by omega)) (by decide)
      have HWP : wrap64 (3 * 2 ^ (fl % 8 + 1)) = 3 * (N : Int) := by
        rw [hN]
        rw [IntWalk.wrap64_in _ (by
          have e : (2 : Int) ^ (fl % 8 + 1) = ((2 ^ (fl % 8 + 1) : Nat) : Int) := by simp
          rw [e, ← hN]
          omega)]
        simp
      rw [HWP]
      have HE2 := HE1.out
      rw [← hN] at HE2
      clear HWP hN
      by_cases cs : m < 13 + 3 * N
      · rw [if_pos cs] at HE2
        replace HE2 := Lib.hid HE2
        have t6 : decide ((m : Int) - 13 < 3 * (N : Int)) = true := by simp; omega
        go_wp2
        refine bodyPost_ret (v := .tuple #[.agg #[.int .i64 0, .int .i64 0, .slice none 0 0], .int .i64 2]) (by rw [results_cell_tmp rfl]; go_simp) rfl ?_
        rw [HE2.out]
        exact ⟨by first | exact HW0.out | exact HBel.out _ _ _ _ HW0.out, .inr ⟨by decide, rfl⟩⟩
      · rw [if_neg cs] at HE2
        replace HE2 := Lib.hid HE2
        have t6 : decide ((m : Int) - 13 < 3 * (N : Int)) = false := by simp; omega
        have RM := run_mid (some ⟨bk, of, none⟩) m cap 13 (3 * N) (by omega)
        have hPf := (HBW.out.from hm (q := 13) (k := 3 * N) (by omega))
        obtain ⟨Z, hZ⟩ : ∃ Z, Z = (if cap = 13 then (some ⟨bk, of, none⟩ : Option Addr) else (some ⟨bk, of, none⟩ : Option Addr).map (·.add 13)) := ⟨_, rfl⟩
        rw [← hZ] at RM hPf
        rw [show ((13 : Nat) : Int) = 13 from rfl, show ((3 * N : Nat) : Int) = 3 * (N : Int) by omega] at RM
        have HPF := Lib.hid hPf
        clear hPf hZ
        go_wp2_with fail
        all_goals (
          refine (table_ref Z (3 * N) (cap - 13) (fun i => b (13 + i)) (fun i => HBT.out _) (by omega) (by unfold maxLen; omega) (by omega) W1 HPF.out).mono ?_
          rintro e w3 ⟨v3, rfl, ho3, hb3⟩
          have e3 : 3 * N / 3 = N := by omega
          have eT : tabC (fun i => b (13 + i)) 0 N = tabC b 13 N := by
            unfold tabC
            refine List.map_congr_left fun i _ => ?_
            simp only [Nat.zero_add, Nat.add_assoc]
          rw [e3, eT] at ho3
          have hs3 := Sl.of_own ho3
          obtain ⟨-, A3, c3', rfl, -⟩ := Sl.of_own ho3
          have HS3 : Hid (Sl w3 (.slice A3 N c3') 4 N (cellsP (tabC b 13 N))) := Lib.hid hs3
          have HB3 := Lib.hid hb3
          clear ho3 hs3 hb3 RM
          go_wp2_with fail
          go_meet
          refine ⟨13 + 3 * N, tabC b 13 N, by go_num, by omega, by rw [tabC_len]; exact hN1, ⟨HB3.out, A3, c3', by rw [tabC_len], by rw [tabC_len]; exact HS3.out⟩, HE2⟩)
    · have HE1 := HE.out
      rw [if_neg cf] at HE1
      replace HE1 := Lib.hid HE1
      have f1 := and128 fl hb8
      rw [decide_eq_false cf] at f1
      go_wp2_with fail
      go_meet
      exact ⟨13, [], by go_num, by omega, by simp, ⟨Below.refl _ _, none, 0, rfl, Sl.nil _ _⟩, HE1⟩
  case rest =>
  obtain ⟨q, L2, rfl, hq, hL2, ⟨hBc, AL2, capL2, rfl, hS2⟩, hr2⟩ := hcut
  clear l0 l1 l2 lf HE c10 hb8
  have hlt1 : w.heap.size < W1.heap.size := lt_heap HR0.out
  have HRc := Lib.hid (hp_below HR0.out hBc hlt1)
  have HBc := Lib.hid (HW0.out.trans (hBc.mono (by omega)))
  have HSc := Lib.hid hS2
  clear hBc hS2 HR0 HW0 HBW t1 t1' t2 t2' hlt1
  go_wp2_with fail
  go_loopw [6, 9] (fun s6 s9 wr => ∃ (p K : Nat) (cl : Int), s6 = .int .i64 (p : Nat) ∧ s9 = .int .i64 cl ∧ p ≤ m ∧ (-1 ≤ cl ∧ cl < 256) ∧ m + 1 ≤ K + p ∧ Below w.heap.size w wr ∧ wr.heap[w.heap.size]? = some (.cells #[.int .i64 0, .int .i64 0, .slice none 0 0] 26 (0, 0)) ∧ Sl wr (.slice AL2 L2.length capL2) 4 L2.length (cellsP L2) ∧ Hid (r = partsG b m W H L2 K p cl)) (fun s6 _ _ => m + 1 - (intOf s6).toNat)
  case atStart => exact ⟨q, m + 1, -1, rfl, rfl, hq, ⟨by omega, by omega⟩, by omega, HBc.out, HRc.out, HSc.out, hr2⟩
  case round =>
    clear hr2 HBc HRc HSc hq
    obtain ⟨p, K, cl, rfl, rfl, hp, hcl, hK, hB, hR, hS, hrr⟩ := hrel
    obtain ⟨K, rfl⟩ : ∃ K', K = K' + 1 := ⟨K - 1, by omega⟩
    have HBr := Lib.hid hB
    have HRr := Lib.hid hR
    have HSr := Lib.hid hS
    have hE := hrr.out
    rw [partsG] at hE
    have l0 := hp_cell (j := 0) HRr.out rfl
    have l1 := hp_cell (j := 1) HRr.out rfl
    have l2 := hp_cell (j := 2) HRr.out rfl
    have lf := hp_froz HRr.out
    have hwr : w.heap.size < wr.heap.size := lt_heap HRr.out
    have HBY := Lib.hid (HB.out.below HBr.out)
    clear hrr hB hR hS
    by_cases d1 : m ≤ p
    · rw [if_pos d1] at hE
      have HE := Lib.hid hE
      have t1 : decide (m ≤ p) = true := by simp; omega
      clear hE
      go_wp2
      refine bodyPost_ret (v := .tuple #[.agg #[.int .i64 0, .int .i64 0, .slice none 0 0], .int .i64 2]) (by rw [results_cell_tmp rfl]; go_simp) rfl ?_
      rw [HE.out]
      exact ⟨by first | exact HBr.out | exact HBel.out _ _ _ _ HBr.out, .inr ⟨by decide, rfl⟩⟩
    rw [if_neg d1] at hE
    have t1 : decide (m ≤ p) = false := by simp; omega
    have hci : ∀ i, i < m → wr.cell? ⟨bk, of + i, none⟩ = some (.int .u8 (b i : Nat)) := by
      obtain ⟨_, _, he, _, h⟩ := HBY.out (by omega)
      cases he
      exact h
    have c0 := hci p (by omega)
    have hb0 := HBT.out p
    obtain ⟨x, hx⟩ : ∃ x, x = b p := ⟨_, rfl⟩
    rw [← hx] at c0 hb0 hE
    have HX := Lib.hid hx
    clear hx
    by_cases d2 : x = 44
    · rw [if_pos d2] at hE
      have HE := Lib.hid hE
      have t2 : ((x : Int) == 44) = true := by simp; omega
      clear hE hci d2
      go_wp2_with fail
      refine (frame_ref (some ⟨bk, of, none⟩) m cap b HBT.out hm HMX.out HA.out (by omega) (p + 1) W H HZ.out (by omega) AL2 capL2 L2 hL2 cl hcl.1 hcl.2 wr HBY.out HSr.out).mono ?_
      rw [← HE.out]
      rintro e w3 ⟨hB3, ⟨h0, A3, cap3, h1, h2, rfl, hO⟩ | ⟨h0, rfl⟩⟩
      · have hR3 := hp_below HRr.out hB3 hwr
        have HB3 := Lib.hid (HBr.out.trans (hB3.mono (by omega)))
        have HO := Lib.hid hO
        have H0 := Lib.hid h0
        have k0 := hp_cell (j := 0) hR3 rfl
        have k1 := hp_cell (j := 1) hR3 rfl
        have k2 := hp_cell (j := 2) hR3 rfl
        have kf := hp_froz hR3
        clear hB3 hO h0 l0 l1 l2 lf c0
        go_wp2
        refine bodyPost_ret (v := .tuple #[.agg #[.int .i64 (W : Nat), .int .i64 (H : Nat), .slice A3 (4 * (W * H)) cap3], .int .i64 0]) (by rw [results_cell_tmp rfl]; go_simp) rfl ?_
        exact ⟨HBel.out _ _ _ _ HB3.out, .inl ⟨H0.out, A3, cap3, h1, h2, rfl, (((HO.out.set (g := w.heap.size) (by omega) 0 _).set (g := w.heap.size) (by omega) 1 _).set (g := w.heap.size) (by omega) 2 _).le (by omega)⟩⟩
      · have hR3 := hp_below HRr.out hB3 hwr
        have HB3 := Lib.hid (HBr.out.trans (hB3.mono (by omega)))
        have H0 := Lib.hid h0
        have k0 := hp_cell (j := 0) hR3 rfl
        have k1 := hp_cell (j := 1) hR3 rfl
        have k2 := hp_cell (j := 2) hR3 rfl
        have kf := hp_froz hR3
        obtain ⟨r1, r2⟩ := r
        clear hB3 h0 l0 l1 l2 lf c0 HE
        dsimp only at H0 ⊢
        go_wp2
        refine bodyPost_ret (v := .tuple #[.agg #[.int .i64 0, .int .i64 0, .slice none 0 0], .int .i64 (r2 : Nat)]) (by rw [results_cell_tmp rfl]; go_simp) rfl ?_
        exact ⟨by first | exact HB3.out | exact HBel.out _ _ _ _ HB3.out, .inr ⟨H0.out, rfl⟩⟩
    rw [if_neg d2] at hE
    have t2 : ((x : Int) == 44) = false := by simp; omega
    by_cases d3 : x = 33
    case neg =>
      rw [if_pos d3] at hE
      have HE := Lib.hid hE
      have t3 : ((x : Int) != 33) = true := by simp; omega
      clear hE hci d3
      go_wp2
      refine bodyPost_ret (v := .tuple #[.agg #[.int .i64 0, .int .i64 0, .slice none 0 0], .int .i64 4]) (by rw [results_cell_tmp rfl]; go_simp) rfl ?_
      rw [HE.out]
      exact ⟨by first | exact HBr.out | exact HBel.out _ _ _ _ HBr.out, .inr ⟨by decide, rfl⟩⟩
    rw [if_neg (by omega)] at hE
    have t3 : ((x : Int) != 33) = false := by simp; omega
    by_cases d4 : m ≤ p + 1
    · rw [if_pos d4] at hE
      have HE := Lib.hid hE
      have t4 : decide ((m : Int) ≤ (p : Int) + 1) = true := by simp; omega
      clear hE hci d2 d3
      go_wp2
      refine bodyPost_ret (v := .tuple #[.agg #[.int .i64 0, .int .i64 0, .slice none 0 0], .int .i64 2]) (by rw [results_cell_tmp rfl]; go_simp) rfl ?_
      rw [HE.out]
      exact ⟨by first | exact HBr.out | exact HBel.out _ _ _ _ HBr.out, .inr ⟨by decide, rfl⟩⟩
    rw [if_neg d4] at hE
    have t4 : decide ((m : Int) ≤ (p : Int) + 1) = false := by simp; omega
    have c1 := hci (p + 1) (by omega)
    have hb1 := HBT.out (p + 1)
    obtain ⟨y, hy⟩ : ∃ y, y = b (p + 1) := ⟨_, rfl⟩
    rw [← hy] at c1 hb1 hE
    have HY := Lib.hid hy
    have HE := Lib.hid hE
    clear hy hE hci d2 d3
    have RM := run_lo (some ⟨bk, of, none⟩) m cap (p + 2) (by omega)
    have hPf := (HBY.out.from hm (q := p + 2) (k := m - (p + 2)) (by omega))
    have hZn : (if cap = p + 2 then (some ⟨bk, of, none⟩ : Option Addr) else (some ⟨bk, of, none⟩ : Option Addr).map (·.add (p + 2))) = none → cap - (p + 2) = 0 := by
      split
      · intro h; cases h
      · intro h; simp at h
    obtain ⟨Z, hZ⟩ : ∃ Z, Z = (if cap = p + 2 then (some ⟨bk, of, none⟩ : Option Addr) else (some ⟨bk, of, none⟩ : Option Addr).map (·.add (p + 2))) := ⟨_, rfl⟩
    rw [← hZ] at RM hPf hZn
    rw [show ((p + 2 : Nat) : Int) = (p : Int) + 2 by omega] at RM
    have HPF := Lib.hid hPf
    have HZN := Lib.hid hZn
    clear hPf hZ hZn
    go_wp2_with fail
    refine (unb_ref Z (m - (p + 2)) (cap - (p + 2)) (fun i => b (p + 2 + i)) (fun i => HBT.out _) (by omega) (by unfold maxLen; omega) HZN.out (by omega) wr HPF.out).mono ?_
    clear RM
    obtain ⟨U, hU⟩ : ∃ U, U = unV (fun i => b (p + 2 + i)) (m - (p + 2)) := ⟨_, rfl⟩
    have hu1 := un_lt (b := fun i => b (p + 2 + i)) (fun i => HBT.out _) (m - (p + 2))
    have hu2 := un_used (fun i => b (p + 2 + i)) (m - (p + 2))
    have hE2 := HE.out
    rw [← hU] at hu1 hu2 hE2 ⊢
    clear hU HE
    obtain ⟨U1, U2, U3⟩ := U
    dsimp only at hu1 hu2 hE2 ⊢
    have HU1 := Lib.hid hu1
    clear hu1
    rintro e w4 ⟨A4, cap4, rfl, hN4, hB4⟩
    have HR4 := Lib.hid (hp_below HRr.out hB4 hwr)
    have HB4 := Lib.hid (HBr.out.trans (hB4.mono (by omega)))
    have HS4 := Lib.hid (HSr.out.below hB4)
    have HN4 := Lib.hid hN4
    have c1 := (hB4.cell (p := ⟨bk, of + (p + 1), none⟩) (lt_of_cell c1)).trans c1
    have hwr4 : w.heap.size < w4.heap.size := lt_heap HR4.out
    clear hN4 hB4 l0 l1 l2 lf c0 HPF HZN HBY HBr HRr HSr hwr t1 t2 t3 t4
    have l0 := hp_cell (j := 0) HR4.out rfl
    have l1 := hp_cell (j := 1) HR4.out rfl
    have l2 := hp_cell (j := 2) HR4.out rfl
    have lf := hp_froz HR4.out
    by_cases d5 : U3 = 0
    case neg =>
      rw [if_pos d5] at hE2
      have HE := Lib.hid hE2
      have HD := Lib.hid d5
      have t5 : ((U3 : Int) != 0) = true := by simp; omega
      clear hE2 d5
      go_wp2
      refine bodyPost_ret (v := .tuple #[.agg #[.int .i64 0, .int .i64 0, .slice none 0 0], .int .i64 (U3 : Nat)]) (by rw [results_cell_tmp rfl]; go_simp) rfl ?_
      rw [HE.out]
      exact ⟨by first | exact HB4.out | exact HBel.out _ _ _ _ HB4.out, .inr ⟨HD.out, rfl⟩⟩
    subst d5
    rw [if_neg (by omega)] at hE2
    by_cases d6 : y = 249
    case neg =>
      rw [if_neg d6] at hE2
      have HE := Lib.hid hE2
      have t6 : ((y : Int) == 249) = false := by simp; omega
      clear hE2 d6
      go_wp2_with fail
      go_roundw
      case rel => exact ⟨p + 2 + U2, K, cl, by go_num, rfl, by omega, hcl, by omega, HB4.out, HR4.out, HS4.out, HE⟩
      case measure => simp [intOf]; omega
    rw [if_pos d6] at hE2
    have t6 : ((y : Int) == 249) = true := by simp; omega
    clear d6
    by_cases d7 : U1.length = 4
    case neg =>
      rw [if_pos d7] at hE2
      have HE := Lib.hid hE2
      have t7 : ((U1.length : Int) != 4) = true := by simp; omega
      clear hE2 d7
      go_wp2
      refine bodyPost_ret (v := .tuple #[.agg #[.int .i64 0, .int .i64 0, .slice none 0 0], .int .i64 4]) (by rw [results_cell_tmp rfl]; go_simp) rfl ?_
      rw [HE.out]
      exact ⟨by first | exact HB4.out | exact HBel.out _ _ _ _ HB4.out, .inr ⟨by decide, rfl⟩⟩
    rw [if_neg (by omega)] at hE2
    have t7 : ((U1.length : Int) != 4) = false := by simp; omega
    obtain ⟨b4, o4, hA4, hb4, hc4⟩ := HN4.out.byt (by omega)
    have u0 := hc4 0 (by omega)
    have u3 := hc4 3 (by omega)
    have v0 := gz_lt8 HU1.out 0
    have v3 := gz_lt8 HU1.out 3
    obtain ⟨X, hX⟩ : ∃ X, X = gz U1 0 := ⟨_, rfl⟩
    obtain ⟨Y, hY⟩ : ∃ Y, Y = gz U1 3 := ⟨_, rfl⟩
    rw [← hX, ← hY] at hE2
    rw [← hX] at u0 v0
    rw [← hY] at u3 v3
    rw [Nat.add_zero] at u0
    rw [d7]
    have HE := Lib.hid hE2
    subst hA4
    clear hc4 hX hY hE2 HN4
    by_cases d8 : X % 2 = 1
    · have t8 : ((X : Int) % 2 == 1) = true := by simp; omega
      have t9 := and1 X v0
      rw [decide_eq_true d8] at t9
      have hE3 := HE.out
      rw [if_pos d8] at hE3
      have HE3 := Lib.hid hE3
      clear hE3 HE
      go_wp2_with fail
      go_roundw
      case rel => exact ⟨p + 2 + U2, K, (Y : Int), by go_num, by go_num, by omega, ⟨by omega, by omega⟩, by omega, HB4.out, HR4.out, HS4.out, HE3⟩
      case measure => simp [intOf]; omega
    · have t8 : ((X : Int) % 2 == 1) = false := by simp; omega
      have t9 := and1 X v0
      rw [decide_eq_false d8] at t9
      have hE3 := HE.out
      rw [if_neg d8] at hE3
      have HE3 := Lib.hid hE3
      clear hE3 HE
      go_wp2_with fail
      go_roundw
      case rel => exact ⟨p + 2 + U2, K, -1, by go_num, by go_num, by omega, ⟨by omega, by omega⟩, by omega, HB4.out, HR4.out, HS4.out, HE3⟩
      case measure => simp [intOf]; omega
end Go.Proofs.Ytkjlejkcedemlaa

namespace Go.Proofs.Ytkjlejkcedemlaa
set_option maxRecDepth 100000
set_option linter.unusedVariables false
open Go.ChangeShapes Go.WideShapes Go.ChangeAt Go.RowKit

set_option maxRecDepth 100000 in
set_option maxHeartbeats 2000000 in
theorem same14_ok (a b : Int) (A : Option Addr) (n cap : Nat) (c : Nat → Nat) (a' b' : Int) (A' : Option Addr) (n' cap' : Nat) (c' : Nat → Nat) (ha : In64 a) (hb : In64 b) (ha' : In64 a') (hb' : In64 b') (hn : n ≤ cap) (hmax : cap ≤ maxLen) (hn' : n' ≤ cap') (hmax' : cap' ≤ maxLen) (w : World) (hP : Pix w A n c) (hP' : Pix w A' n' c') :
    Calls Try.prog 11 #[.agg #[.int .i64 a, .int .i64 b, .slice A n cap], .int .i64 0, .agg #[.int .i64 a', .int .i64 b', .slice A' n' cap'], .int .i64 0] w fun e w' => e = .returned (.bool (sameB a b n c a' b' n' c')) ∧ Below w.heap.size w w' := by
  obtain ⟨q0, q1, q2, q4⟩ := two_boxes w #[.int .i64 a, .int .i64 b, .slice A n cap] #[.int .i64 a', .int .i64 b', .slice A' n' cap'] 26 26
  have k0 := hp_cell (j := 0) q1 rfl
  have k1 := hp_cell (j := 1) q1 rfl
  have k2 := hp_cell (j := 2) q1 rfl
  have j0 := hp_cell (j := 0) q2 rfl
  have j1 := hp_cell (j := 1) q2 rfl
  have j2 := hp_cell (j := 2) q2 rfl
  have HB := Lib.hid q4
  have HP := Lib.hid (hP.below q4)
  have HP' := Lib.hid (hP'.below q4)
  clear hP hP' q4 q0 q1 q2
  go_enter Try.func11, Try.ntmps11
  go_wp2_with fail
  refine (same_ref a b A n cap c a' b' A' n' cap' c' ha hb ha' hb' hn hmax hn' hmax' _ HP.out HP'.out).mono ?_
  rintro e w2 ⟨rfl, hB2⟩
  have HF := Lib.hid (HB.out.trans (hB2.mono HB.out.size))
  clear hB2 k0 k1 k2 j0 j1 j2
  go_wp2
  go_ret
  exact ⟨rfl, HF.out⟩
set_option maxRecDepth 100000 in
set_option maxHeartbeats 2000000 in
theorem same14_err (q : Nat) (hq : q ≠ 0) (hq2 : q < 1000) (x y : Int) (A : Option Addr) (n cap : Nat) (w : World) :
    Calls Try.prog 11 #[.agg #[.int .i64 0, .int .i64 0, .slice none 0 0], .int .i64 (q : Nat), .agg #[.int .i64 x, .int .i64 y, .slice A n cap], .int .i64 (q : Nat)] w fun e w' => e = .returned (.bool true) ∧ Below w.heap.size w w' := by
  obtain ⟨q0, q1, q2, q4⟩ := two_boxes w #[.int .i64 0, .int .i64 0, .slice none 0 0] #[.int .i64 x, .int .i64 y, .slice A n cap] 26 26
  have k0 := hp_cell (j := 0) q1 rfl
  have k1 := hp_cell (j := 1) q1 rfl
  have k2 := hp_cell (j := 2) q1 rfl
  have HB := Lib.hid q4
  have t1 : ((q : Int) == 0) = false := beq_eq_false_iff_ne.2 (by omega)
  have t2 : ((q : Int) != 0) = true := by rw [bne, t1]; rfl
  have t3 : ((q : Int) != (q : Int)) = false := by simp
  clear q4 q0 q1 q2
  go_enter Try.func11, Try.ntmps11
  go_wp2
  go_ret
  exact ⟨rfl, HB.out⟩
end Go.Proofs.Ytkjlejkcedemlaa

namespace Go.Proofs.Ytkjlejkcedemlaa
set_option maxRecDepth 100000
set_option linter.unusedVariables false
open Go.ChangeShapes Go.WideShapes Go.ChangeAt Go.RowKit

def up1 (c : Nat → Nat) (k v j : Nat) : Nat := if j = k then v else c j
theorem own_put {B : Nat} {w : World} {g n : Nat} {c : Nat → Nat} (h : Own B w (some ⟨g, 0, none⟩) n c) (i v : Nat) : Own B (w.setCell ⟨g, i, none⟩ (.int .u16 (v : Nat))) (some ⟨g, 0, none⟩) n (up1 c i v) := fun hn => by
  obtain ⟨g', cur, he, hB, hg, hs, hc⟩ := h hn
  cases he
  refine ⟨g, _, rfl, hB, heap_set hg, by simpa using hs, fun j hj => ?_⟩
  rw [Array.getElem?_setIfInBounds]
  by_cases hE : i = j
  · subst hE
    rw [if_pos rfl, if_pos (by omega)]
    simp [up1]
  · rw [if_neg hE, hc j hj]
    simp [up1, Ne.symm hE]
theorem own_cellP {B : Nat} {w : World} {g n : Nat} {c : Nat → Nat} (h : Own B w (some ⟨g, 0, none⟩) n c) {i : Nat} (hi : i < n) : w.cell? ⟨g, i, none⟩ = some (.int .u16 (c i : Nat)) ∧ w.frozen? ⟨g, i, none⟩ = false ∧ B ≤ g ∧ g < w.heap.size := by
  obtain ⟨g', cur, he, hB, hg, hs, hc⟩ := h (by omega)
  cases he
  exact ⟨hp_cell hg (hc i hi), hp_froz hg i, hB, lt_heap hg⟩
end Go.Proofs.Ytkjlejkcedemlaa
