/- engraverref14.Gif: a GIF file, by the document. engraverlaw14.Same. A picture of one's own: samples set one by one. What gifwrite.Encode writes, engraverref14.Gif reads. Layer 17's awake. GifwriteTold: plain laws; gifwrite.Encode by one contract. GifwriteTold: the walk. -/
import Derived.Test.YtlgoohhfpmomhaaM16

namespace Go.Proofs.Ytlgoohhfpmomhaa
set_option maxRecDepth 100000
set_option linter.unusedVariables false
open Go.ChangeShapes Go.WideShapes Go.ChangeAt Go.RowKit

set_option maxRecDepth 100000 in
set_option maxHeartbeats 4000000 in
theorem gif_ref (A : Option Addr) (m cap : Nat) (b : Nat → Nat) (hbt : ∀ i, b i < 256) (hm : m ≤ cap) (hmax : cap ≤ maxLen) (hA : A = none → cap = 0) (w : World) (hB : Byt w A m b) :
    Calls Try.prog 9 #[.slice A m cap] w (picPost (lowD b 6 2) (lowD b 8 2) (gifG b m) w) := by
  have HB := Lib.hid hB
  have HBT := Lib.hid hbt
  have HMX := Lib.hid hmax
  have HA := Lib.hid hA
  unfold maxLen at hmax
  clear hB hbt hA
  obtain ⟨r, hr⟩ : ∃ r, r = gifG b m := ⟨_, rfl⟩
  rw [← hr]
  unfold gifG at hr
  have x0 := lowD_lt HBT.out 6 2
  have x1 := lowD_lt HBT.out 8 2
  rw [show (256 : Nat) ^ 2 = 65536 from rfl] at x0 x1
  obtain ⟨W, hW⟩ : ∃ W, W = lowD b 6 2 := ⟨_, rfl⟩
  obtain ⟨H, hH⟩ : ∃ H, H = lowD b 8 2 := ⟨_, rfl⟩
  rw [← hW, ← hH] at hr ⊢
  rw [← hW] at x0
  rw [← hH] at x1
  have HW := Lib.hid hW
  have HH := Lib.hid hH
  clear hW hH
  have hr0 := hp_new0 w (.cells #[.int .i64 0, .int .i64 0, .slice none 0 0] 27)
  have hW0 : Below w.heap.size w (w.alloc (.cells #[.int .i64 0, .int .i64 0, .slice none 0 0] 27)) := (Below.refl _ w).alloc (Nat.le_refl _) _
  have l0 := hp_cell (j := 0) hr0 rfl
  have l1 := hp_cell (j := 1) hr0 rfl
  have l2 := hp_cell (j := 2) hr0 rfl
  have lf : ∀ j, (w.alloc (.cells #[.int .i64 0, .int .i64 0, .slice none 0 0] 27)).frozen? ⟨w.heap.size, j, none⟩ = false := fun j => by rw [World.frozen?, hr0]; simp
  have HR0 := Lib.hid hr0
  have HW0 := Lib.hid hW0
  have HBW := Lib.hid (HB.out.below hW0)
  clear hr0 hW0
  have hBel : ∀ (wx : World) (v0 v1 v2 : Value), Below w.heap.size w wx → Below w.heap.size w (((wx.setCell ⟨w.heap.size, 0, none⟩ v0).setCell ⟨w.heap.size, 1, none⟩ v1).setCell ⟨w.heap.size, 2, none⟩ v2) := fun wx v0 v1 v2 h =>
    ((h.setCell (p := ⟨w.heap.size, 0, none⟩) (Nat.le_refl _) _).setCell (p := ⟨w.heap.size, 1, none⟩) (Nat.le_refl _) _).setCell (p := ⟨w.heap.size, 2, none⟩) (Nat.le_refl _) _
  have HBel := Lib.hid hBel
  clear hBel
  go_enter Try.func9, Try.ntmps9
  by_cases e1 : 262144 < m
  · have t1 : decide (262144 < m) = true := by simp; omega
    have t1' : decide ((262144 : Int) < (m : Int)) = true := by simp; omega
    rw [if_pos e1] at hr
    have HE := Lib.hid hr
    clear hr
    go_wp2
    refine bodyPost_ret (v := .tuple #[.agg #[.int .i64 0, .int .i64 0, .slice none 0 0], .int .i64 3]) (by rw [results_cell_tmp rfl]; go_simp) rfl ?_
    rw [HE.out]
    exact ⟨by first | exact HW0.out | exact HBel.out _ _ _ _ HW0.out, .inr ⟨by decide, rfl⟩⟩
  have t1 : decide (262144 < m) = false := by simp; omega
  have t1' : decide ((262144 : Int) < (m : Int)) = false := by simp; omega
  rw [if_neg e1] at hr
  by_cases e2 : m < 13
  · have t2 : decide (m < 13) = true := by simp; omega
    have t2' : decide ((m : Int) < 13) = true := by simp; omega
    rw [if_pos e2] at hr
    have HE := Lib.hid hr
    clear hr
    go_wp2
    refine bodyPost_ret (v := .tuple #[.agg #[.int .i64 0, .int .i64 0, .slice none 0 0], .int .i64 2]) (by rw [results_cell_tmp rfl]; go_simp) rfl ?_
    rw [HE.out]
    exact ⟨by first | exact HW0.out | exact HBel.out _ _ _ _ HW0.out, .inr ⟨by decide, rfl⟩⟩
  have t2 : decide (m < 13) = false := by simp; omega
  have t2' : decide ((m : Int) < 13) = false := by simp; omega
  rw [if_neg e2] at hr
  have hB6 : Byt (w.alloc (.cells #[.int .i64 0, .int .i64 0, .slice none 0 0] 27)) A 6 b := fun _ => by
    obtain ⟨bk, of, h1, h2, h3⟩ := HBW.out (by omega)
    exact ⟨bk, of, h1, h2, fun j hj => h3 j (by omega)⟩
  have hs := run_str (cap := cap) hB6
  have q7 := is87 b HBT.out
  have q9 := is89 b HBT.out
  obtain ⟨T6, hT6⟩ : ∃ T6, T6 = strB 6 b := ⟨_, rfl⟩
  rw [← hT6] at hs q7 q9
  have RH := run_hi A m cap 6 (by omega)
  rw [show ((6 : Nat) : Int) = 6 from rfl] at RH
  clear hB6 hT6
  by_cases e3 : isGif b = false
  · rw [if_pos e3] at hr
    have HE := Lib.hid hr
    unfold isGif at e3
    simp only [decide_eq_false_iff_not] at e3
    rw [decide_eq_false (fun h => e3 ⟨h.1, h.2.1, h.2.2.1, h.2.2.2.1, .inl h.2.2.2.2.1, h.2.2.2.2.2⟩)] at q7
    rw [decide_eq_false (fun h => e3 ⟨h.1, h.2.1, h.2.2.1, h.2.2.2.1, .inr h.2.2.2.2.1, h.2.2.2.2.2⟩)] at q9
    clear hr e3
    go_wp2
    refine bodyPost_ret (v := .tuple #[.agg #[.int .i64 0, .int .i64 0, .slice none 0 0], .int .i64 4]) (by rw [results_cell_tmp rfl]; go_simp) rfl ?_
    rw [HE.out]
    exact ⟨by first | exact HW0.out | exact HBel.out _ _ _ _ HW0.out, .inr ⟨by decide, rfl⟩⟩
  rw [if_neg e3] at hr
  have HE := Lib.hid hr
  clear hr
  have e4 : b 4 = 55 ∨ b 4 = 57 := by
    unfold isGif at e3
    simp only [decide_eq_false_iff_not, Classical.not_not] at e3
    exact e3.2.2.2.2.1
  have e5 : b 0 = 71 ∧ b 1 = 73 ∧ b 2 = 70 ∧ b 3 = 56 ∧ b 5 = 97 := by
    unfold isGif at e3
    simp only [decide_eq_false_iff_not, Classical.not_not] at e3
    exact ⟨e3.1, e3.2.1, e3.2.2.1, e3.2.2.2.1, e3.2.2.2.2.2⟩
  clear e3
  have e7 : (T6.toList == [71, 73, 70, 56, 55, 97]) = decide (b 4 = 55) := by rw [q7]; simp [e5]
  have e9 : (T6.toList == [71, 73, 70, 56, 57, 97]) = decide (b 4 = 57) := by rw [q9]; simp [e5]
  clear q7 q9 e5
  go_upto_region 5 with fail
  go_cut [23] (fun s23 wx => s23 = .bool false ∧ wx = (w.alloc (.cells #[.int .i64 0, .int .i64 0, .slice none 0 0] 27)))
  case first =>
    rcases e4 with e4 | e4
    · rw [decide_eq_true e4] at e7
      rw [decide_eq_false (by omega)] at e9
      clear e4
      go_wp2_with fail
      go_meet
      exact ⟨rfl, rfl⟩
    · rw [decide_eq_false (by omega)] at e7
      rw [decide_eq_true e4] at e9
      clear e4
      go_wp2_with fail
      go_meet
      exact ⟨rfl, rfl⟩
  case rest =>
  obtain ⟨rfl, rfl⟩ := hcut
  clear e7 e9 hs RH e4
  go_wp2_with fail
  generalize w.alloc (.cells #[.int .i64 0, .int .i64 0, .slice none 0 0] 27) = W1 at *
  refine (low_ref A m cap b HBT.out 6 2 (by omega) (by omega) hm HMX.out _ HBW.out).mono ?_
  rintro e wz ⟨rfl, hw⟩
  rw [hw, ← HW.out]
  clear hw wz
  go_wp2_with fail
  refine (low_ref A m cap b HBT.out 8 2 (by omega) (by omega) hm HMX.out _ HBW.out).mono ?_
  rintro e wz ⟨rfl, hw⟩
  rw [hw, ← HH.out]
  clear hw wz
  go_wp2_with fail
  refine (size_ref (W : Nat) (H : Nat) (by unfold In64; omega) (by unfold In64; omega) _).mono ?_
  rintro e wz ⟨rfl, rfl⟩
  have hE := HE.out
  by_cases hz : sizeE (W : Nat) (H : Nat) = 0
  case neg =>
    have t3 : (sizeE (W : Nat) (H : Nat) != 0) = true := by rw [bne_iff_ne]; exact hz
    rw [if_pos hz] at hE
    have HE2 := Lib.hid hE
    clear hE hz
    go_wp2
    refine bodyPost_ret (v := .tuple #[.agg #[.int .i64 0, .int .i64 0, .slice none 0 0], .int .i64 6]) (by rw [results_cell_tmp rfl]; go_simp) rfl ?_
    rw [HE2.out]
    exact ⟨by first | exact HW0.out | exact HBel.out _ _ _ _ HW0.out, .inr ⟨by decide, rfl⟩⟩
  rw [hz]
  rw [if_neg (by rw [hz]; decide)] at hE
  obtain ⟨bk, of, hAe, hbk, hci⟩ := HBW.out (by omega)
  have c10 := hci 10 (by omega)
  have hb8 := HBT.out 10
  obtain ⟨fl, hfl⟩ : ∃ q, q = b 10 := ⟨_, rfl⟩
  rw [← hfl] at hb8 hE c10
  have HZ := Lib.hid hz
  clear hfl hci hbk hz HE
  have HE := Lib.hid hE
  clear hE
  subst hAe
  go_upto_if 48 with fail
  go_cut [6, 7] (fun s6 s7 wx => ∃ (q : Nat) (L2 : List P4), s6 = .int .i64 (q : Nat) ∧ q ≤ m ∧ L2.length ≤ 256 ∧ ColAt W1 s7 L2 wx ∧ Hid (r = partsG b m W H L2 (m + 1) q (-1)))
  case first =>
    by_cases cf : fl / 128 = 1
    · have HE1 := HE.out
      rw [if_pos cf] at HE1
      replace HE1 := Lib.hid HE1
      have f1 := and128 fl hb8
      rw [decide_eq_true cf] at f1
      go_upto_region 14 with fail
      clear f1
      obtain ⟨N, hN⟩ : ∃ N, N = 2 ^ (fl % 8 + 1) := ⟨_, rfl⟩
      have hN1 : N ≤ 256 := by
        rw [hN]
        exact Nat.le_trans (Nat.pow_le_pow_right (by omega) (show fl % 8 + 1 ≤ 8 by omega)) (by decide)
      have HWP : wrap64 (3 * 2 ^ (fl % 8 + 1)) = 3 * (N : Int) := by
        rw [hN]
        rw [IntWalk.wrap64_in _ (by
          have e : (2 : Int) ^ (fl % 8 + 1) = ((2 ^ (fl % 8 + 1) : Nat) : Int) := by simp
          rw [e, ← hN]
          omega)]
        simp
      rw [HWP]
      have HE2 := HE1.out
      rw [← hN] at HE2
      clear HWP hN
      by_cases cs : m < 13 + 3 * N
      · rw [if_pos cs] at HE2
        replace HE2 := Lib.hid HE2
        have t6 : decide ((m : Int) - 13 < 3 * (N : Int)) = true := by simp; omega
        go_wp2
        refine bodyPost_ret (v := .tuple #[.agg #[.int .i64 0, .int .i64 0, .slice none 0 0], .int .i64 2]) (by rw [results_cell_tmp rfl]; go_simp) rfl ?_
        rw [HE2.out]
        exact ⟨by first | exact HW0.out | exact HBel.out _ _ _ _ HW0.out, .inr ⟨by decide, rfl⟩⟩
      · rw [if_neg cs] at HE2
        replace HE2 := Lib.hid HE2
        have t6 : decide ((m : Int) - 13 < 3 * (N : Int)) = false := by simp; omega
        have RM := run_mid (some ⟨bk, of, none⟩) m cap 13 (3 * N) (by omega)
        have hPf := (HBW.out.from hm (q := 13) (k := 3 * N) (by omega))
        obtain ⟨Z, hZ⟩ : ∃ Z, Z = (if cap = 13 then (some ⟨bk, of, none⟩ : Option Addr) else (some ⟨bk, of, none⟩ : Option Addr).map (·.add 13)) := ⟨_, rfl⟩
        rw [← hZ] at RM hPf
        rw [show ((13 : Nat) : Int) = 13 from rfl, show ((3 * N : Nat) : Int) = 3 * (N : Int) by omega] at RM
        have HPF := Lib.hid hPf
        clear hPf hZ
        go_wp2_with fail
        all_goals (
          refine (table_ref Z (3 * N) (cap - 13) (fun i => b (13 + i)) (fun i => HBT.out _) (by omega) (by unfold maxLen; omega) (by omega) W1 HPF.out).mono ?_
          rintro e w3 ⟨v3, rfl, ho3, hb3⟩
          have e3 : 3 * N / 3 = N := by omega
          have eT : tabC (fun i => b (13 + i)) 0 N = tabC b 13 N := by
            unfold tabC
            refine List.map_congr_left fun i _ => ?_
            simp only [Nat.zero_add, Nat.add_assoc]
          rw [e3, eT] at ho3
          have hs3 := Sl.of_own ho3
          obtain ⟨-, A3, c3', rfl, -⟩ := Sl.of_own ho3
          have HS3 : Hid (Sl w3 (.slice A3 N c3') 4 N (cellsP (tabC b 13 N))) := Lib.hid hs3
          have HB3 := Lib.hid hb3
          clear ho3 hs3 hb3 RM
          go_wp2_with fail
          go_meet
          refine ⟨13 + 3 * N, tabC b 13 N, by go_num, by omega, by rw [tabC_len]; exact hN1, ⟨HB3.out, A3, c3', by rw [tabC_len], by rw [tabC_len]; exact HS3.out⟩, HE2⟩)
    · have HE1 := HE.out
      rw [if_neg cf] at HE1
      replace HE1 := Lib.hid HE1
      have f1 := and128 fl hb8
      rw [decide_eq_false cf] at f1
      go_wp2_with fail
      go_meet
      exact ⟨13, [], by go_num, by omega, by simp, ⟨Below.refl _ _, none, 0, rfl, Sl.nil _ _⟩, HE1⟩
  case rest =>
  obtain ⟨q, L2, rfl, hq, hL2, ⟨hBc, AL2, capL2, rfl, hS2⟩, hr2⟩ := hcut
  clear l0 l1 l2 lf HE c10 hb8
  have hlt1 : w.heap.size < W1.heap.size := lt_heap HR0.out
  have HRc := Lib.hid (hp_below HR0.out hBc hlt1)
  have HBc := Lib.hid (HW0.out.trans (hBc.mono (by omega)))
  have HSc := Lib.hid hS2
  clear hBc hS2 HR0 HW0 HBW t1 t1' t2 t2' hlt1
  go_wp2_with fail
  go_loopw [6, 9] (fun s6 s9 wr => ∃ (p K : Nat) (cl : Int), s6 = .int .i64 (p : Nat) ∧ s9 = .int .i64 cl ∧ p ≤ m ∧ (-1 ≤ cl ∧ cl < 256) ∧ m + 1 ≤ K + p ∧ Below w.heap.size w wr ∧ wr.heap[w.heap.size]? = some (.cells #[.int .i64 0, .int .i64 0, .slice none 0 0] 27 (0, 0)) ∧ Sl wr (.slice AL2 L2.length capL2) 4 L2.length (cellsP L2) ∧ Hid (r = partsG b m W H L2 K p cl)) (fun s6 _ _ => m + 1 - (intOf s6).toNat)
  case atStart => exact ⟨q, m + 1, -1, rfl, rfl, hq, ⟨by omega, by omega⟩, by omega, HBc.out, HRc.out, HSc.out, hr2⟩
  case round =>
    clear hr2 HBc HRc HSc hq
    obtain ⟨p, K, cl, rfl, rfl, hp, hcl, hK, hB, hR, hS, hrr⟩ := hrel
    obtain ⟨K, rfl⟩ : ∃ K', K = K' + 1 := ⟨K - 1, by omega⟩
    have HBr := Lib.hid hB
    have HRr := Lib.hid hR
    have HSr := Lib.hid hS
    have hE := hrr.out
    rw [partsG] at hE
    have l0 := hp_cell (j := 0) HRr.out rfl
    have l1 := hp_cell (j := 1) HRr.out rfl
    have l2 := hp_cell (j := 2) HRr.out rfl
    have lf := hp_froz HRr.out
    have hwr : w.heap.size < wr.heap.size := lt_heap HRr.out
    have HBY := Lib.hid (HB.out.below HBr.out)
    clear hrr hB hR hS
    by_cases d1 : m ≤ p
    · rw [if_pos d1] at hE
      have HE := Lib.hid hE
      have t1 : decide (m ≤ p) = true := by simp; omega
      clear hE
      go_wp2
      refine bodyPost_ret (v := .tuple #[.agg #[.int .i64 0, .int .i64 0, .slice none 0 0], .int .i64 2]) (by rw [results_cell_tmp rfl]; go_simp) rfl ?_
      rw [HE.out]
      exact ⟨by first | exact HBr.out | exact HBel.out _ _ _ _ HBr.out, .inr ⟨by decide, rfl⟩⟩
    rw [if_neg d1] at hE
    have t1 : decide (m ≤ p) = false := by simp; omega
    have hci : ∀ i, i < m → wr.cell? ⟨bk, of + i, none⟩ = some (.int .u8 (b i : Nat)) := by
      obtain ⟨_, _, he, _, h⟩ := HBY.out (by omega)
      cases he
      exact h
    have c0 := hci p (by omega)
    have hb0 := HBT.out p
    obtain ⟨x, hx⟩ : ∃ x, x = b p := ⟨_, rfl⟩
    rw [← hx] at c0 hb0 hE
    have HX := Lib.hid hx
    clear hx
    by_cases d2 : x = 44
    · rw [if_pos d2] at hE
      have HE := Lib.hid hE
      have t2 : ((x : Int) == 44) = true := by simp; omega
      clear hE hci d2
      go_wp2_with fail
      refine (frame_ref (some ⟨bk, of, none⟩) m cap b HBT.out hm HMX.out HA.out (by omega) (p + 1) W H HZ.out (by omega) AL2 capL2 L2 hL2 cl hcl.1 hcl.2 wr HBY.out HSr.out).mono ?_
      rw [← HE.out]
      rintro e w3 ⟨hB3, ⟨h0, A3, cap3, h1, h2, rfl, hO⟩ | ⟨h0, rfl⟩⟩
      · have hR3 := hp_below HRr.out hB3 hwr
        have HB3 := Lib.hid (HBr.out.trans (hB3.mono (by omega)))
        have HO := Lib.hid hO
        have H0 := Lib.hid h0
        have k0 := hp_cell (j := 0) hR3 rfl
        have k1 := hp_cell (j := 1) hR3 rfl
        have k2 := hp_cell (j := 2) hR3 rfl
        have kf := hp_froz hR3
        clear hB3 hO h0 l0 l1 l2 lf c0
        go_wp2
        refine bodyPost_ret (v := .tuple #[.agg #[.int .i64 (W : Nat), .int .i64 (H : Nat), .slice A3 (4 * (W * H)) cap3], .int .i64 0]) (by rw [results_cell_tmp rfl]; go_simp) rfl ?_
        exact ⟨HBel.out _ _ _ _ HB3.out, .inl ⟨H0.out, A3, cap3, h1, h2, rfl, (((HO.out.set (g := w.heap.size) (by omega) 0 _).set (g := w.heap.size) (by omega) 1 _).set (g := w.heap.size) (by omega) 2 _).le (by omega)⟩⟩
      · have hR3 := hp_below HRr.out hB3 hwr
        have HB3 := Lib.hid (HBr.out.trans (hB3.mono (by omega)))
        have H0 := Lib.hid h0
        have k0 := hp_cell (j := 0) hR3 rfl
        have k1 := hp_cell (j := 1) hR3 rfl
        have k2 := hp_cell (j := 2) hR3 rfl
        have kf := hp_froz hR3
        obtain ⟨r1, r2⟩ := r
        clear hB3 h0 l0 l1 l2 lf c0 HE
        dsimp only at H0 ⊢
        go_wp2
        refine bodyPost_ret (v := .tuple #[.agg #[.int .i64 0, .int .i64 0, .slice none 0 0], .int .i64 (r2 : Nat)]) (by rw [results_cell_tmp rfl]; go_simp) rfl ?_
        exact ⟨by first | exact HB3.out | exact HBel.out _ _ _ _ HB3.out, .inr ⟨H0.out, rfl⟩⟩
    rw [if_neg d2] at hE
    have t2 : ((x : Int) == 44) = false := by simp; omega
    by_cases d3 : x = 33
    case neg =>
      rw [if_pos d3] at hE
      have HE := Lib.hid hE
      have t3 : ((x : Int) != 33) = true := by simp; omega
      clear hE hci d3
      go_wp2
      refine bodyPost_ret (v := .tuple #[.agg #[.int .i64 0, .int .i64 0, .slice none 0 0], .int .i64 4]) (by rw [results_cell_tmp rfl]; go_simp) rfl ?_
      rw [HE.out]
      exact ⟨by first | exact HBr.out | exact HBel.out _ _ _ _ HBr.out, .inr ⟨by decide, rfl⟩⟩
    rw [if_neg (by omega)] at hE
    have t3 : ((x : Int) != 33) = false := by simp; omega
    by_cases d4 : m ≤ p + 1
    · rw [if_pos d4] at hE
      have HE := Lib.hid hE
      have t4 : decide ((m : Int) ≤ (p : Int) + 1) = true := by simp; omega
      clear hE hci d2 d3
      go_wp2
      refine bodyPost_ret (v := .tuple #[.agg #[.int .i64 0, .int .i64 0, .slice none 0 0], .int .i64 2]) (by rw [results_cell_tmp rfl]; go_simp) rfl ?_
      rw [HE.out]
      exact ⟨by first | exact HBr.out | exact HBel.out _ _ _ _ HBr.out, .inr ⟨by decide, rfl⟩⟩
    rw [if_neg d4] at hE
    have t4 : decide ((m : Int) ≤ (p : Int) + 1) = false := by simp; omega
    have c1 := hci (p + 1) (by omega)
    have hb1 := HBT.out (p + 1)
    obtain ⟨y, hy⟩ : ∃ y, y = b (p + 1) := ⟨_, rfl⟩
    rw [← hy] at c1 hb1 hE
    have HY := Lib.hid hy
    have HE := Lib.hid hE
    clear hy hE hci d2 d3
    have RM := run_lo (some ⟨bk, of, none⟩) m cap (p + 2) (by omega)
    have hPf := (HBY.out.from hm (q := p + 2) (k := m - (p + 2)) (by omega))
    have hZn : (if cap = p + 2 then (some ⟨bk, of, none⟩ : Option Addr) else (some ⟨bk, of, none⟩ : Option Addr).map (·.add (p + 2))) = none → cap - (p + 2) = 0 := by
      split
      · intro h; cases h
      · intro h; simp at h
    obtain ⟨Z, hZ⟩ : ∃ Z, Z = (if cap = p + 2 then (some ⟨bk, of, none⟩ : Option Addr) else (some ⟨bk, of, none⟩ : Option Addr).map (·.add (p + 2))) := ⟨_, rfl⟩
    rw [← hZ] at RM hPf hZn
    rw [show ((p + 2 : Nat) : Int) = (p : Int) + 2 by omega] at RM
    have HPF := Lib.hid hPf
    have HZN := Lib.hid hZn
    clear hPf hZ hZn
    go_wp2_with fail
    refine (unb_ref Z (m - (p + 2)) (cap - (p + 2)) (fun i => b (p + 2 + i)) (fun i => HBT.out _) (by omega) (by unfold maxLen; omega) HZN.out (by omega) wr HPF.out).mono ?_
    clear RM
    obtain ⟨U, hU⟩ : ∃ U, U = unV (fun i => b (p + 2 + i)) (m - (p + 2)) := ⟨_, rfl⟩
    have hu1 := un_lt (b := fun i => b (p + 2 + i)) (fun i => HBT.out _) (m - (p + 2))
    have hu2 := un_used (fun i => b (p + 2 + i)) (m - (p + 2))
    have hE2 := HE.out
    rw [← hU] at hu1 hu2 hE2 ⊢
    clear hU HE
    obtain ⟨U1, U2, U3⟩ := U
    dsimp only at hu1 hu2 hE2 ⊢
    have HU1 := Lib.hid hu1
    clear hu1
    rintro e w4 ⟨A4, cap4, rfl, hN4, hB4⟩
    have HR4 := Lib.hid (hp_below HRr.out hB4 hwr)
    have HB4 := Lib.hid (HBr.out.trans (hB4.mono (by omega)))
    have HS4 := Lib.hid (HSr.out.below hB4)
    have HN4 := Lib.hid hN4
    have c1 := (hB4.cell (p := ⟨bk, of + (p + 1), none⟩) (lt_of_cell c1)).trans c1
    have hwr4 : w.heap.size < w4.heap.size := lt_heap HR4.out
    clear hN4 hB4 l0 l1 l2 lf c0 HPF HZN HBY HBr HRr HSr hwr t1 t2 t3 t4
    have l0 := hp_cell (j := 0) HR4.out rfl
    have l1 := hp_cell (j := 1) HR4.out rfl
    have l2 := hp_cell (j := 2) HR4.out rfl
    have lf := hp_froz HR4.out
    by_cases d5 : U3 = 0
    case neg =>
      rw [if_pos d5] at hE2
      have HE := Lib.hid hE2
      have HD := Lib.hid d5
      have t5 : ((U3 : Int) != 0) = true := by simp; omega
      clear hE2 d5
      go_wp2
      refine bodyPost_ret (v := .tuple #[.agg #[.int .i64 0, .int .i64 0, .slice none 0 0], .int .i64 (U3 : Nat)]) (by rw [results_cell_tmp rfl]; go_simp) rfl ?_
      rw [HE.out]
      exact ⟨by first | exact HB4.out | exact HBel.out _ _ _ _ HB4.out, .inr ⟨HD.out, rfl⟩⟩
    subst d5
    rw [if_neg (by omega)] at hE2
    by_cases d6 : y = 249
    case neg =>
      rw [if_neg d6] at hE2
      have HE := Lib.hid hE2
      have t6 : ((y : Int) == 249) = false := by simp; omega
      clear hE2 d6
      go_wp2_with fail
      go_roundw
      case rel => exact ⟨p + 2 + U2, K, cl, by go_num, rfl, by omega, hcl, by omega, HB4.out, HR4.out, HS4.out, HE⟩
      case measure => simp [intOf]; omega
    rw [if_pos d6] at hE2
    have t6 : ((y : Int) == 249) = true := by simp; omega
    clear d6
    by_cases d7 : U1.length = 4
    case neg =>
      rw [if_pos d7] at hE2
      have HE := Lib.hid hE2
      have t7 : ((U1.length : Int) != 4) = true := by simp; omega
      clear hE2 d7
      go_wp2
      refine bodyPost_ret (v := .tuple #[.agg #[.int .i64 0, .int .i64 0, .slice none 0 0], .int .i64 4]) (by rw [results_cell_tmp rfl]; go_simp) rfl ?_
      rw [HE.out]
      exact ⟨by first | exact HB4.out | exact HBel.out _ _ _ _ HB4.out, .inr ⟨by decide, rfl⟩⟩
    rw [if_neg (by omega)] at hE2
    have t7 : ((U1.length : Int) != 4) = false := by simp; omega
    obtain ⟨b4, o4, hA4, hb4, hc4⟩ := HN4.out.byt (by omega)
    have u0 := hc4 0 (by omega)
    have u3 := hc4 3 (by omega)
    have v0 := gz_lt8 HU1.out 0
    have v3 := gz_lt8 HU1.out 3
    obtain ⟨X, hX⟩ : ∃ X, X = gz U1 0 := ⟨_, rfl⟩
    obtain ⟨Y, hY⟩ : ∃ Y, Y = gz U1 3 := ⟨_, rfl⟩
    rw [← hX, ← hY] at hE2
    rw [← hX] at u0 v0
    rw [← hY] at u3 v3
    rw [Nat.add_zero] at u0
    rw [d7]
    have HE := Lib.hid hE2
    subst hA4
    clear hc4 hX hY hE2 HN4
    by_cases d8 : X % 2 = 1
    · have t8 : ((X : Int) % 2 == 1) = true := by simp; omega
      have t9 := and1 X v0
      rw [decide_eq_true d8] at t9
      have hE3 := HE.out
      rw [if_pos d8] at hE3
      have HE3 := Lib.hid hE3
      clear hE3 HE
      go_wp2_with fail
      go_roundw
      case rel => exact ⟨p + 2 + U2, K, (Y : Int), by go_num, by go_num, by omega, ⟨by omega, by omega⟩, by omega, HB4.out, HR4.out, HS4.out, HE3⟩
      case measure => simp [intOf]; omega
    · have t8 : ((X : Int) % 2 == 1) = false := by simp; omega
      have t9 := and1 X v0
      rw [decide_eq_false d8] at t9
      have hE3 := HE.out
      rw [if_neg d8] at hE3
      have HE3 := Lib.hid hE3
      clear hE3 HE
      go_wp2_with fail
      go_roundw
      case rel => exact ⟨p + 2 + U2, K, -1, by go_num, by go_num, by omega, ⟨by omega, by omega⟩, by omega, HB4.out, HR4.out, HS4.out, HE3⟩
      case measure => simp [intOf]; omega
end Go.Proofs.Ytlgoohhfpmomhaa

namespace Go.Proofs.Ytlgoohhfpmomhaa
set_option maxRecDepth 100000
set_option linter.unusedVariables false
open Go.ChangeShapes Go.WideShapes Go.ChangeAt Go.RowKit

set_option maxRecDepth 100000 in
set_option maxHeartbeats 2000000 in
theorem same14_ok (a b : Int) (A : Option Addr) (n cap : Nat) (c : Nat → Nat) (a' b' : Int) (A' : Option Addr) (n' cap' : Nat) (c' : Nat → Nat) (ha : In64 a) (hb : In64 b) (ha' : In64 a') (hb' : In64 b') (hn : n ≤ cap) (hmax : cap ≤ maxLen) (hn' : n' ≤ cap') (hmax' : cap' ≤ maxLen) (w : World) (hP : Pix w A n c) (hP' : Pix w A' n' c') :
    Calls Try.prog 10 #[.agg #[.int .i64 a, .int .i64 b, .slice A n cap], .int .i64 0, .agg #[.int .i64 a', .int .i64 b', .slice A' n' cap'], .int .i64 0] w fun e w' => e = .returned (.bool (sameB a b n c a' b' n' c')) ∧ Below w.heap.size w w' := by
  obtain ⟨q0, q1, q2, q4⟩ := two_boxes w #[.int .i64 a, .int .i64 b, .slice A n cap] #[.int .i64 a', .int .i64 b', .slice A' n' cap'] 27 27
  have k0 := hp_cell (j := 0) q1 rfl
  have k1 := hp_cell (j := 1) q1 rfl
  have k2 := hp_cell (j := 2) q1 rfl
  have j0 := hp_cell (j := 0) q2 rfl
  have j1 := hp_cell (j := 1) q2 rfl
  have j2 := hp_cell (j := 2) q2 rfl
  have HB := Lib.hid q4
  have HP := Lib.hid (hP.below q4)
  have HP' := Lib.hid (hP'.below q4)
  clear hP hP' q4 q0 q1 q2
  go_enter Try.func10, Try.ntmps10
  go_wp2_with fail
  refine (same_ref a b A n cap c a' b' A' n' cap' c' ha hb ha' hb' hn hmax hn' hmax' _ HP.out HP'.out).mono ?_
  rintro e w2 ⟨rfl, hB2⟩
  have HF := Lib.hid (HB.out.trans (hB2.mono HB.out.size))
  clear hB2 k0 k1 k2 j0 j1 j2
  go_wp2
  go_ret
  exact ⟨rfl, HF.out⟩
set_option maxRecDepth 100000 in
set_option maxHeartbeats 2000000 in
theorem same14_err (q : Nat) (hq : q ≠ 0) (hq2 : q < 1000) (x y : Int) (A : Option Addr) (n cap : Nat) (w : World) :
    Calls Try.prog 10 #[.agg #[.int .i64 0, .int .i64 0, .slice none 0 0], .int .i64 (q : Nat), .agg #[.int .i64 x, .int .i64 y, .slice A n cap], .int .i64 (q : Nat)] w fun e w' => e = .returned (.bool true) ∧ Below w.heap.size w w' := by
  obtain ⟨q0, q1, q2, q4⟩ := two_boxes w #[.int .i64 0, .int .i64 0, .slice none 0 0] #[.int .i64 x, .int .i64 y, .slice A n cap] 27 27
  have k0 := hp_cell (j := 0) q1 rfl
  have k1 := hp_cell (j := 1) q1 rfl
  have k2 := hp_cell (j := 2) q1 rfl
  have HB := Lib.hid q4
  have t1 : ((q : Int) == 0) = false := beq_eq_false_iff_ne.2 (by omega)
  have t2 : ((q : Int) != 0) = true := by rw [bne, t1]; rfl
  have t3 : ((q : Int) != (q : Int)) = false := by simp
  clear q4 q0 q1 q2
  go_enter Try.func10, Try.ntmps10
  go_wp2
  go_ret
  exact ⟨rfl, HB.out⟩
end Go.Proofs.Ytlgoohhfpmomhaa

namespace Go.Proofs.Ytlgoohhfpmomhaa
set_option maxRecDepth 100000
set_option linter.unusedVariables false
open Go.ChangeShapes Go.WideShapes Go.ChangeAt Go.RowKit

def up1 (c : Nat → Nat) (k v j : Nat) : Nat := if j = k then v else c j
theorem own_put {B : Nat} {w : World} {g n : Nat} {c : Nat → Nat} (h : Own B w (some ⟨g, 0, none⟩) n c) (i v : Nat) : Own B (w.setCell ⟨g, i, none⟩ (.int .u16 (v : Nat))) (some ⟨g, 0, none⟩) n (up1 c i v) := fun hn => by
  obtain ⟨g', cur, he, hB, hg, hs, hc⟩ := h hn
  cases he
  refine ⟨g, _, rfl, hB, heap_set hg, by simpa using hs, fun j hj => ?_⟩
  rw [Array.getElem?_setIfInBounds]
  by_cases hE : i = j
  · subst hE
    rw [if_pos rfl, if_pos (by omega)]
    simp [up1]
  · rw [if_neg hE, hc j hj]
    simp [up1, Ne.symm hE]
theorem own_cellP {B : Nat} {w : World} {g n : Nat} {c : Nat → Nat} (h : Own B w (some ⟨g, 0, none⟩) n c) {i : Nat} (hi : i < n) : w.cell? ⟨g, i, none⟩ = some (.int .u16 (c i : Nat)) ∧ w.frozen? ⟨g, i, none⟩ = false ∧ B ≤ g ∧ g < w.heap.size := by
  obtain ⟨g', cur, he, hB, hg, hs, hc⟩ := h (by omega)
  cases he
  exact ⟨hp_cell hg (hc i hi), hp_froz hg i, hB, lt_heap hg⟩
end Go.Proofs.Ytlgoohhfpmomhaa

namespace Go.Proofs.Ytlgoohhfpmomhaa
set_option maxRecDepth 100000
set_option linter.unusedVariables false
open Go.ChangeShapes Go.WideShapes Go.ChangeAt Go.RowKit

/-- The file of a picture. -/
def gifF (c : Nat → Nat) (W H : Nat) : List Nat := gifE W H (U c (W * H)) (clearIx (U c (W * H))) (bbN (U c (W * H)).length) (pl c (W * H))
theorem tabR_lt (L : List P4) (hL : ∀ p ∈ L, w4 p) (M j : Nat) : ∀ v ∈ tabR L M j, v < 256 := by
  intro v hv
  unfold tabR at hv
  rw [List.mem_map] at hv
  obtain ⟨t, _, rfl⟩ := hv
  split
  · unfold tbB
    have h : w4 ((L[t / 3]?).getD (0, 0, 0, 0)) := by
      cases h : L[t / 3]? with
      | none => unfold w4; simp
      | some p => exact hL p (List.mem_of_getElem? h)
    obtain ⟨h1, h2, h3, h4⟩ := h
    unfold part4
    (repeat' split) <;> omega
  · omega
theorem num2_lt (n : Nat) : ∀ v ∈ num2 n, v < 256 := by
  intro v hv
  unfold num2 at hv
  simp only [List.mem_cons, List.not_mem_nil, or_false] at hv
  omega
theorem lzwE_all (sz : Nat) (l : List Nat) : ∀ v ∈ lzwE sz l, v < 256 := fun v hv => by
  obtain ⟨i, hi, rfl⟩ := List.mem_iff_getElem.1 hv
  have := lzwE_lt sz l i
  unfold gz at this
  rwa [List.getElem?_eq_getElem hi, Option.getD_some] at this
theorem gifE_lt (W H : Nat) (L : List P4) (hL : ∀ p ∈ L, w4 p) (cl : Int) (bb : Nat) (hb : 1 ≤ bb ∧ bb ≤ 8) (idx : List Nat) : ∀ v ∈ gifE W H L cl bb idx, v < 256 := by
  intro v hv
  unfold gifE at hv
  simp only [List.mem_append, List.mem_cons, List.not_mem_nil, or_false] at hv
  rcases hv with ((h | (h | h)) | h) | h | h | (((h | (h | h)) | h) | (h | h))
  · omega
  · exact num2_lt _ v h
  · exact num2_lt _ v h
  · omega
  · exact tabR_lt _ hL _ _ v h
  · split at h
    · simp only [List.mem_cons, List.not_mem_nil, or_false] at h; omega
    · cases h
  · omega
  · exact num2_lt _ v h
  · exact num2_lt _ v h
  · omega
  · exact blkV_lt _ (lzwE_all _ _) v h
  · omega
section
variable {W H : Nat} {c : Nat → Nat}
theorem gifF_lt (hc : ∀ i, c i < 65536) (hfit : fitsB (W : Nat) (H : Nat) (4 * (W * H)) c 2 = true) (i : Nat) : gz (gifF c W H) i < 256 := by
  obtain ⟨_, hok⟩ := gifok_of hc hfit
  refine gz_lt (gifE_lt W H _ (fun p hp => ?_) _ _ ⟨hok.b1, hok.b2⟩ _) i
  obtain ⟨j, _, rfl⟩ := U_mem hp
  exact ⟨hc _, hc _, hc _, hc _⟩
theorem gifF_len (hc : ∀ i, c i < 65536) (hfit : fitsB (W : Nat) (H : Nat) (4 * (W * H)) c 2 = true) : (gifF c W H).length ≤ 9 * W * H + 2048 := by
  obtain ⟨hz, hok⟩ := gifok_of hc hfit
  exact (gif_back hok hz _ _ rfl rfl).2.2.1
theorem gif_file (hc : ∀ i, c i < 65536) (hfit : fitsB (W : Nat) (H : Nat) (4 * (W * H)) c 2 = true) (A : Option Addr) (cap B : Nat) (w : World) (hN : NewB B w (gifF c W H).length A cap (gz (gifF c W H))) :
    Calls Try.prog 9 #[.slice A (gifF c W H).length cap] w fun e w' => ∃ A' cap', e = .returned (.tuple #[.agg #[.int .i64 (W : Nat), .int .i64 (H : Nat), .slice A' (4 * (W * H)) cap'], .int .i64 0]) ∧ 4 * (W * H) ≤ cap' ∧ cap' ≤ maxLen ∧ Own w.heap.size w' A' (4 * (W * H)) c ∧ Below w.heap.size w w' := by
  obtain ⟨hz, hok⟩ := gifok_of hc hfit
  obtain ⟨g6, g8, _, d, hd, hdc⟩ := gif_back hok hz (gz (gifF c W H)) (gifF c W H).length rfl rfl
  refine (gif_ref A _ cap _ (gifF_lt hc hfit) hN.le hN.max hN.nil w hN.byt).mono ?_
  rintro e w' ⟨hB, ⟨h0, A', cap', h1, h2, rfl, hO⟩ | ⟨h0, _⟩⟩
  · rw [g6, g8] at h1 hO ⊢
    rw [hd] at hO
    refine ⟨A', cap', rfl, h1, h2, fun hn => ?_, hB⟩
    obtain ⟨g, cur, rfl, q1, q2, q3, q4⟩ := hO hn
    exact ⟨g, cur, rfl, q1, q2, q3, fun j hj => by rw [q4 j hj, ← hdc j hj]⟩
  · exact absurd (congrArg Prod.snd hd) h0
end
theorem same_self {a b : Int} {n : Nat} (c : Nat → Nat) (h : mayB a b n = true) : sameB a b n c a b n c = true := by
  simp [sameB, h, allEq]
end Go.Proofs.Ytlgoohhfpmomhaa

namespace Go.Proofs.Ytlgoohhfpmomhaa
set_option maxRecDepth 100000
set_option linter.unusedVariables false
open Go.ChangeShapes Go.WideShapes Go.ChangeAt Go.RowKit

theorem size11 : sizeE ((1 : Nat) : Int) ((1 : Nat) : Int) = 0 := by decide
theorem may11 : mayB ((1 : Nat) : Int) ((1 : Nat) : Int) (4 * 1) = true := by decide
def cV : Nat → Nat := up1 (up1 (fun _ => 0) 2 257) 3 65535
theorem cV_lt (i : Nat) : cV i < 65536 := by
  unfold cV up1
  split
  · omega
  · split
    · omega
    · exact Nat.zero_lt_of_lt (show 0 < 65536 by omega)
theorem fit11 : fitsB ((1 : Nat) : Int) ((1 : Nat) : Int) (4 * (1 * 1)) cV 2 = true := by kernel_rfl
set_option maxRecDepth 100000 in
set_option maxHeartbeats 4000000 in
theorem awake17 (w : World) : Calls Try.prog 6 #[] w fun e w' => e = .returned (.bool true) ∧ Below w.heap.size w w' := by
  go_enter Try.func6, Try.ntmps6
  go_wp2_with fail
  refine (new_ref (1 : Nat) (1 : Nat) (by unfold In64; omega) (by unfold In64; omega) _).mono ?_
  rintro e w3 ⟨hB, ⟨_, v, rfl, hown⟩ | ⟨h, _⟩⟩
  rotate_left
  · exact absurd size11 h
  have h4N : (4 * ((1 : Nat) : Int) * ((1 : Nat) : Int)).toNat = 4 * 1 := rfl
  rw [h4N, zeros_16] at hown
  obtain ⟨A', cap', rfl, hn', hc', _, hO⟩ := NewRow.of_row hown
  obtain ⟨g, cur, rfl, hgB, _⟩ := hO (by omega)
  have hgr : g < w3.heap.size := (hO.lt g (by omega) rfl).2
  have hal : Below w3.heap.size w3 (w3.alloc (.cells #[.int .i64 1, .int .i64 1, .slice (some ⟨g, 0, none⟩) 4 cap'] 27)) := (Below.refl _ w3).alloc (Nat.le_refl _) _
  have HR4 := Lib.hid (hp_new0 w3 (.cells #[.int .i64 1, .int .i64 1, .slice (some ⟨g, 0, none⟩) 4 cap'] 27))
  have HB5 := Lib.hid (hB.trans (hal.mono hB.size))
  have hO5 := hO.below hal
  have HO5 := Lib.hid hO5
  have hs3 := hB.size
  clear hal hO hB hown
  go_wp2_with fail
  generalize w3.alloc (.cells #[.int .i64 1, .int .i64 1, .slice (some ⟨g, 0, none⟩) 4 cap'] 27) = w5 at *
  obtain ⟨rb, hrb⟩ : ∃ rb, rb = w3.heap.size := ⟨_, rfl⟩
  rw [← hrb] at HR4 hs3 hgr ⊢
  clear hrb
  have k2 := hp_cell (j := 2) HR4.out rfl
  obtain ⟨c2, f2, hgB2, hgl⟩ := own_cellP HO5.out (show 2 < 4 * 1 by omega)
  obtain ⟨c3, f3, _, _⟩ := own_cellP HO5.out (show 3 < 4 * 1 by omega)
  have hO6 : Own (w.heap.size + 1) (((w5.setCell ⟨g, 2, none⟩ (.int .u16 257)).setCell ⟨g, 3, none⟩ (.int .u16 65535)).drew) (some ⟨g, 0, none⟩) (4 * 1) cV := (own_put (own_put HO5.out 2 257) 3 65535).below ((Below.refl _ _).drew)
  have hR6 : (((w5.setCell ⟨g, 2, none⟩ (.int .u16 257)).setCell ⟨g, 3, none⟩ (.int .u16 65535)).drew).heap[rb]? = some (.cells #[.int .i64 1, .int .i64 1, .slice (some ⟨g, 0, none⟩) 4 cap'] 27 (0, 0)) := hp_oth (hp_oth HR4.out (show ¬rb = g by omega)) (show ¬rb = g by omega)
  have hB6 : Below w.heap.size w (((w5.setCell ⟨g, 2, none⟩ (.int .u16 257)).setCell ⟨g, 3, none⟩ (.int .u16 65535)).drew) := ((HB5.out.setCell (p := ⟨g, 2, none⟩) (by simp; omega) (.int .u16 (257 : Nat))).setCell (p := ⟨g, 3, none⟩) (by simp; omega) (.int .u16 (65535 : Nat))).drew
  have HO6 := Lib.hid hO6
  have HR6 := Lib.hid hR6
  have HB6 := Lib.hid hB6
  clear hO6 hR6 hB6 hO5
  go_region
  all_goals
    generalize (((w5.setCell ⟨g, 2, none⟩ (.int .u16 257)).setCell ⟨g, 3, none⟩ (.int .u16 65535)).drew) = w6 at *
    clear c2 f2 c3 f3 k2
    have k0 := hp_cell (j := 0) HR6.out rfl
    have k1 := hp_cell (j := 1) HR6.out rfl
    have k2 := hp_cell (j := 2) HR6.out rfl
    go_wp2_with fail
    refine (enc_gif 1 1 g 0 cap' cV cV_lt fit11 hn' hc' _ (by have := HB6.out.size; have := (own_cellP HO6.out (show 2 < 4 * 1 by omega)).2.2.2; omega) (fun j hj => by rw [Nat.zero_add]; exact (own_cellP HO6.out (show j < 4 * 1 by omega)).1)).mono ?_
    rintro e w7 ⟨gb, capb, rfl, hNw, hB7⟩
    have hBM := gif_file cV_lt fit11 gb capb _ w7 hNw
    rw [show gifE 1 1 (U cV (1 * 1)) (clearIx (U cV (1 * 1))) (bbN (U cV (1 * 1)).length) (pl cV (1 * 1)) = gifF cV 1 1 from rfl]
    obtain ⟨m, hm⟩ : ∃ m, m = (gifF cV 1 1).length := ⟨_, rfl⟩
    rw [← hm] at hBM ⊢
    have HBM := Lib.hid hBM
    have hR7 := hp_below HR6.out hB7 (lt_heap HR6.out)
    have HO7 := Lib.hid (HO6.out.below hB7)
    have HB7 := Lib.hid (HB6.out.trans (hB7.mono HB6.out.size))
    have HR7 := Lib.hid hR7
    clear hBM hm hNw hB7 hR7 k0 k1 k2
    go_wp2_with fail
    refine HBM.out.mono ?_
    rintro e w8 ⟨A8, cap8, rfl, hn8, hc8, hP8', hB8⟩
    have hP8 := hP8'.pix
    have hR8 := hp_below HR7.out hB8 (lt_heap HR7.out)
    have hO8 := HO7.out.below hB8
    have hal8 : Below w8.heap.size w8 (w8.alloc (.cells #[.int .i64 1, .int .i64 1, .slice A8 4 cap8] 27)) := (Below.refl _ w8).alloc (Nat.le_refl _) _
    have hQ9 := hp_new0 w8 (.cells #[.int .i64 1, .int .i64 1, .slice A8 4 cap8] 27)
    have hR9 := hp_below hR8 hal8 (lt_heap hR8)
    have hB9 := HB7.out.trans ((hB8.trans (hal8.mono hB8.size)).mono HB7.out.size)
    have HP9 := Lib.hid (hP8.below hal8)
    have HO9 := Lib.hid (hO8.below hal8).pix
    have HB9 := Lib.hid hB9
    have HQ9 := Lib.hid hQ9
    have HR9 := Lib.hid hR9
    have k0 := hp_cell (j := 0) hR9 rfl
    have k1 := hp_cell (j := 1) hR9 rfl
    have k2 := hp_cell (j := 2) hR9 rfl
    have q0 := hp_cell (j := 0) hQ9 rfl
    have q1 := hp_cell (j := 1) hQ9 rfl
    have q2 := hp_cell (j := 2) hQ9 rfl
    clear hR8 hO8 hal8 hQ9 hR9 hB9 hP8 hP8' hB8
    go_wp2_with fail
    refine (same_ref (1 : Nat) (1 : Nat) (some ⟨g, 0, none⟩) (4 * 1) cap' cV (1 : Nat) (1 : Nat) A8 (4 * 1) cap8 cV (by unfold In64; omega) (by unfold In64; omega) (by unfold In64; omega) (by unfold In64; omega) hn' hc' hn8 hc8 _ HO9.out HP9.out).mono ?_
    rintro e w10 ⟨rfl, hB10⟩
    rw [same_self cV may11]
    have HF := Lib.hid (HB9.out.trans (hB10.mono HB9.out.size))
    clear hB10
    go_wp2
    go_ret
    exact ⟨rfl, HF.out⟩
end Go.Proofs.Ytlgoohhfpmomhaa

namespace Go.Proofs.Ytlgoohhfpmomhaa
set_option maxRecDepth 100000
set_option linter.unusedVariables false
open Go.ChangeShapes Go.WideShapes Go.ChangeAt Go.RowKit

theorem pic_two {a b : Int} {n : Nat} {c : Nat → Nat} (h : fitsB a b n c 2 = true) : ∃ a' b' N : Nat, a = (a' : Int) ∧ b = (b' : Int) ∧ n = 4 * N ∧ a' * b' = N ∧ (1 ≤ a' ∧ a' ≤ 256) ∧ (1 ≤ b' ∧ b' ≤ 256) ∧ N ≤ 16384 ∧ 1 ≤ N ∧ sizeE a' b' = 0 := by
  have hm := fits_may h
  obtain ⟨hz, hn⟩ := may_ok hm
  obtain ⟨h1, h2, h3, h4, h5⟩ := size_ok hz
  obtain ⟨a', rfl⟩ := Int.eq_ofNat_of_zero_le (show 0 ≤ a by omega)
  obtain ⟨b', rfl⟩ := Int.eq_ofNat_of_zero_le (show 0 ≤ b by omega)
  have e1 : (a' : Int) * (b' : Int) = ((a' * b' : Nat) : Int) := by simp
  have e2 : 1 * 1 ≤ a' * b' := Nat.mul_le_mul (by omega) (by omega)
  rw [e1] at h5
  refine ⟨a', b', a' * b', rfl, rfl, ?_, rfl, ⟨by omega, by omega⟩, ⟨by omega, by omega⟩, by omega, by omega, hz⟩
  rw [Int.mul_assoc, e1] at hn
  omega
/-- gifwrite.Encode of a picture that fits. -/
theorem enc_yes (W H n : Nat) (hn : n = 4 * (W * H)) (hn0 : 0 < n) (A : Option Addr) (cap : Nat) (c : Nat → Nat) (hc : ∀ i, c i < 65536) (hfit : fitsB (W : Nat) (H : Nat) n c 2 = true) (hcap : n ≤ cap) (hmax : cap ≤ maxLen) (w : World) (hP : Pix w A n c) :
    Calls Try.prog 8 #[.agg #[.int .i64 (W : Nat), .int .i64 (H : Nat), .slice A n cap]] w fun e w' => ∃ A' cap' m, e = .returned (.tuple #[.slice A' m cap', .int .i64 0]) ∧ m = (gifF c W H).length ∧ m ≤ 9 * W * H + 2048 ∧ NewB w.heap.size w' m A' cap' (gz (gifF c W H)) ∧ Below w.heap.size w w' := by
  subst hn
  obtain ⟨bk, off, rfl, hlt, hcl⟩ := hP hn0
  refine (enc_gif W H bk off cap c hc hfit hcap hmax w hlt hcl).mono ?_
  rintro e w' ⟨A', cap', rfl, hN, hB⟩
  exact ⟨A', cap', _, rfl, rfl, gifF_len hc hfit, hN, hB⟩
/-- engraverref14.Gif of such a file. -/
theorem gif_back_n (W H n m : Nat) (hn : n = 4 * (W * H)) (c : Nat → Nat) (hc : ∀ i, c i < 65536) (hfit : fitsB (W : Nat) (H : Nat) n c 2 = true) (hm : m = (gifF c W H).length) (A : Option Addr) (cap B : Nat) (w : World) (hN : NewB B w m A cap (gz (gifF c W H))) :
    Calls Try.prog 9 #[.slice A m cap] w fun e w' => ∃ A' cap', e = .returned (.tuple #[.agg #[.int .i64 (W : Nat), .int .i64 (H : Nat), .slice A' n cap'], .int .i64 0]) ∧ n ≤ cap' ∧ cap' ≤ maxLen ∧ Own w.heap.size w' A' n c ∧ Below w.heap.size w w' := by
  subst hn hm
  exact gif_file hc hfit A cap B w hN
theorem gif_nil (w : World) : Calls Try.prog 9 #[.slice none 0 0] w fun e w' => e = .returned (.tuple #[.agg #[.int .i64 0, .int .i64 0, .slice none 0 0], .int .i64 2]) ∧ Below w.heap.size w w' := by
  refine (gif_ref none 0 0 (fun _ => 0) (fun _ => by omega) (by omega) (by unfold maxLen; omega) (fun _ => rfl) w (fun h => absurd h (by omega))).mono ?_
  have hg : gifG (fun _ => 0) 0 = (noP, 2) := by unfold gifG; rw [if_neg (by omega), if_pos (by omega)]
  rw [hg]
  rintro e w' ⟨hB, ⟨h0, _⟩ | ⟨_, rfl⟩⟩
  · exact absurd h0 (by decide)
  · exact ⟨rfl, hB⟩
theorem hp_new2 (w : World) (a b : Obj) : ((w.alloc a).alloc b).heap[w.heap.size + 1]? = some b := by
  have h := hp_new0 (w.alloc a) b
  rwa [World.size_alloc] at h
/-- The colours that are set. -/
def colK (j : Nat) : P4 := if j = 0 then (1, 0, 0, 65535) else if j = 1 then (257, 0, 0, 257) else if j = 2 then (257, 0, 0, 0) else if j = 3 then (0, 0, 0, 0) else (257, 514, 771, 65535)
theorem colK_w4 (j : Nat) : w4 (colK j) := by
  unfold colK
  (repeat' split) <;> (unfold w4; decide)
theorem setC_at (c : Nat → Nat) (k : Nat) (p : P4) : setC c k p (4 * k) = p.1 ∧ setC c k p (4 * k + 1) = p.2.1 ∧ setC c k p (4 * k + 2) = p.2.2.1 ∧ setC c k p (4 * k + 3) = p.2.2.2 := by
  unfold setC
  refine ⟨by rw [if_pos rfl], by rw [if_neg (by omega), if_pos rfl], by rw [if_neg (by omega), if_neg (by omega), if_pos rfl], by rw [if_neg (by omega), if_neg (by omega), if_neg (by omega), if_pos rfl]⟩
theorem setC_off (c : Nat → Nat) (k : Nat) (p : P4) (j : Nat) (h : j < 4 * k ∨ 4 * k + 4 ≤ j) : setC c k p j = c j := by
  unfold setC
  rw [if_neg (by omega), if_neg (by omega), if_neg (by omega), if_neg (by omega)]
theorem told_bad {a b : Int} {N : Nat} {c : Nat → Nat} {k j : Nat} (hk : k < N) (hj : j < 3) : fitsB a b (4 * N) (setC c k (colK j)) 2 = false := by
  obtain ⟨e0, e1, e2, e3⟩ := setC_at c k (colK j)
  have h4 : 4 * N / 4 = N := by omega
  have hj3 : j = 0 ∨ j = 1 ∨ j = 2 := by omega
  have key : (bytesB (4 * N) (setC c k (colK j)) && clearB N (setC c k (colK j))) = false := by
    rcases hj3 with rfl | rfl | rfl
    · have hb := bytes_f (n := 4 * N) (k := 4 * k) (c := setC c k (colK 0)) (by omega) (by rw [e0]; decide)
      rw [hb]; rfl
    · have hb := clear_f (N := N) (k := k) (c := setC c k (colK 1)) hk (by
        intro h
        rcases okPix_iff.1 h with h1 | ⟨h1, _⟩
        · rw [e3] at h1; exact absurd h1 (by decide)
        · rw [e0] at h1; exact absurd h1 (by decide))
      rw [hb, Bool.and_false]
    · have hb := clear_f (N := N) (k := k) (c := setC c k (colK 2)) hk (by
        intro h
        rcases okPix_iff.1 h with h1 | ⟨h1, _⟩
        · rw [e3] at h1; exact absurd h1 (by decide)
        · rw [e0] at h1; exact absurd h1 (by decide))
      rw [hb, Bool.and_false]
  unfold fitsB
  rw [h4, key]
  simp
theorem told_good {a b : Int} {N : Nat} {c : Nat → Nat} {k j : Nat} (hc : ∀ i, c i < 65536) (hf : fitsB a b (4 * N) c 2 = true) (hk : k < N) (hj : 3 ≤ j) : fitsB a b (4 * N) (setC c k (colK j)) 2 = colB (setC c k (colK j)) N 256 := by
  obtain ⟨e0, e1, e2, e3⟩ := setC_at c k (colK j)
  obtain ⟨hm, hok, h257, _⟩ := fit_ok hc hf
  have h4 : 4 * N / 4 = N := by omega
  have hcol : colK j = (0, 0, 0, 0) ∨ colK j = (257, 514, 771, 65535) := by
    unfold colK
    rw [if_neg (by omega), if_neg (by omega), if_neg (by omega)]
    split
    · exact .inl rfl
    · exact .inr rfl
  have hb : bytesB (4 * N) (setC c k (colK j)) = true := by
    refine bytes_t fun i hi => ?_
    by_cases ho : i < 4 * k ∨ 4 * k + 4 ≤ i
    · rw [setC_off c k _ i ho]; exact h257 i hi
    · have : i = 4 * k ∨ i = 4 * k + 1 ∨ i = 4 * k + 2 ∨ i = 4 * k + 3 := by omega
      rcases this with rfl | rfl | rfl | rfl
      · rw [e0]; rcases hcol with h | h <;> (rw [h]; decide)
      · rw [e1]; rcases hcol with h | h <;> (rw [h]; decide)
      · rw [e2]; rcases hcol with h | h <;> (rw [h]; decide)
      · rw [e3]; rcases hcol with h | h <;> (rw [h]; decide)
  have hcl : clearB N (setC c k (colK j)) = true := by
    refine clear_iff.2 fun i hi => ?_
    by_cases ho : i = k
    · subst ho
      rw [okPix_iff, e0, e1, e2, e3]
      rcases hcol with h | h
      · rw [h]; exact .inr ⟨rfl, rfl, rfl, rfl⟩
      · rw [h]; exact .inl rfl
    · have := hok i hi
      rw [okPix_iff] at this ⊢
      rw [setC_off c k _ _ (by omega), setC_off c k _ _ (by omega), setC_off c k _ _ (by omega), setC_off c k _ _ (by omega)]
      exact this
  unfold fitsB
  rw [h4, hb, hcl, hm]
  simp
end Go.Proofs.Ytlgoohhfpmomhaa

namespace Go.Proofs.Ytlgoohhfpmomhaa
set_option maxRecDepth 100000
set_option linter.unusedVariables false
open Go.ChangeShapes Go.WideShapes Go.ChangeAt Go.RowKit

set_option maxRecDepth 100000 in
set_option maxHeartbeats 4000000 in
theorem gtold_walk (a b : Int) (A : Option Addr) (n cap : Nat) (c : Nat → Nat) (hc : ∀ i, c i < 65536) (t kd : Nat) (ht : t < 65536) (hkd : kd < 256) (ha : In64 a) (hb : In64 b) (hn : n ≤ cap) (hmax : cap ≤ maxLen) (hz : A = none → cap = 0) (w : World) (hP : Pix w A n c) :
    Calls Try.prog 4 #[.agg #[.int .i64 a, .int .i64 b, .slice A n cap], .int .u16 (t : Nat), .int .u8 (kd : Nat)] w fun e w' => e = .returned (.bool true) ∧ Below w.heap.size w w' := by
  have HB := Lib.hid ((Below.refl _ w).alloc (Nat.le_refl _) (.cells #[.int .i64 a, .int .i64 b, .slice A n cap] 27))
  have HX := Lib.hid (hp_new0 w (.cells #[.int .i64 a, .int .i64 b, .slice A n cap] 27))
  have HP := Lib.hid (hP.below HB.out)
  have HC := Lib.hid hc
  clear hP hc
  go_enter Try.func4, Try.ntmps4
  go_wp2_with fail
  generalize w.alloc (.cells #[.int .i64 a, .int .i64 b, .slice A n cap] 27) = w1 at *
  refine (awake17 _).mono ?_
  rintro e w2 ⟨rfl, hB2⟩
  have HB2 := Lib.hid (HB.out.trans (hB2.mono HB.out.size))
  have HX2 := Lib.hid (hp_below HX.out hB2 (lt_heap HX.out))
  have HP2 := Lib.hid (HP.out.below hB2)
  clear hB2
  have k0 := hp_cell (j := 0) HX2.out rfl
  have k1 := hp_cell (j := 1) HX2.out rfl
  have k2 := hp_cell (j := 2) HX2.out rfl
  by_cases hbig : 3000 < n
  · have hbg : decide ((3000 : Int) < (n : Int)) = true := decide_eq_true (by omega)
    go_wp2_with fail
    go_ret
    exact ⟨rfl, HB2.out⟩
  have hbg : decide ((3000 : Int) < (n : Int)) = false := decide_eq_false (by omega)
  go_wp2_with fail
  refine (fits_ref a b A n cap c 2 HC.out ha hb (by unfold In64; omega) hn hmax _ HP2.out).mono ?_
  rintro e w3 ⟨rfl, hB3⟩
  have HB3 := Lib.hid (HB2.out.trans (hB3.mono HB2.out.size))
  have HX3 := Lib.hid (hp_below HX2.out hB3 (lt_heap HX2.out))
  have HP3 := Lib.hid (HP2.out.below hB3)
  clear hB3 k0 k1 k2
  cases hf : fitsB a b n c 2 with
  | false =>
    clear hf
    go_wp2_with fail
    go_ret
    exact ⟨rfl, HB3.out⟩
  | true =>
    obtain ⟨W, H, N, rfl, rfl, hn4, hab, hW, hH, hN, hN1, hz0⟩ := pic_two hf
    have HF := Lib.hid hf
    have k0 := hp_cell (j := 0) HX3.out rfl
    have k1 := hp_cell (j := 1) HX3.out rfl
    have k2 := hp_cell (j := 2) HX3.out rfl
    have HN4 := Lib.hid hn4
    have HAB := Lib.hid hab
    have HZ := Lib.hid hz0
    have hn40 : 0 < n := by omega
    clear hf hn4 hab hz0
    go_wp2_with fail
    refine (copy_ref W H A n cap c hn hmax hz (by omega) _ HP3.out).mono ?_
    rintro e w4 ⟨⟨A4, cap4, rfl, hn4', hc4, _, hO4⟩, hB4⟩
    obtain ⟨g, cur, rfl, hgB, hgc, hcs, hcc⟩ := hO4 hn40
    have hgl := (hO4.lt g hn40 rfl).2
    have hX4 := hp_below HX3.out hB4 (lt_heap HX3.out)
    have HB4 := Lib.hid (HB3.out.trans (hB4.mono HB3.out.size))
    have hw3 := HB3.out.size
    have hw4 := hB4.size
    have HCC := Lib.hid hcc
    have HGC := Lib.hid hgc
    clear hO4 hB4 k0 k1 k2 hcc hgc
    obtain ⟨K, hK⟩ : ∃ K, K = t % N := ⟨_, rfl⟩
    have hKN : K < N := by rw [hK]; exact Nat.mod_lt _ (by omega)
    have hWH : (W : Int) * (H : Int) = (N : Int) := by rw [← HAB.out]; simp
    have e1 : (t : Int) % (N : Int) = (K : Int) := by rw [hK]; simp
    have e2 : Int.tmod (t : Int) (N : Int) = (K : Int) := by rw [Int.tmod_eq_emod_of_nonneg (by omega), e1]
    have e3 : ¬ N = 0 := by omega
    have e4 : ((N : Int) == 0) = false := beq_eq_false_iff_ne.2 (by omega)
    clear hK
    have hX5 := hp_alloc (.cells #[.int .i64 (W : Nat), .int .i64 (H : Nat), .slice (some ⟨g, 0, none⟩) n cap4] 27) hX4
    have k0 := hp_cell (j := 0) hX5 rfl
    have k1 := hp_cell (j := 1) hX5 rfl
    clear hX5
    have e5 : wrap64 ((K : Int) * 4) = 4 * (K : Int) := by rw [IntWalk.wrap64_in _ (by omega)]; omega
    go_upto_region 7 with fail
    clear hWH e1 e2 e3 e4 e5 k0 k1
    have HR5 := Lib.hid (hp_new0 w4 (.cells #[.int .i64 (W : Nat), .int .i64 (H : Nat), .slice (some ⟨g, 0, none⟩) n cap4] 27))
    have HG5 := Lib.hid (hp_alloc (.cells #[.int .i64 (W : Nat), .int .i64 (H : Nat), .slice (some ⟨g, 0, none⟩) n cap4] 27) HGC.out)
    have HB5 := Lib.hid (HB4.out.alloc HB4.out.size (.cells #[.int .i64 (W : Nat), .int .i64 (H : Nat), .slice (some ⟨g, 0, none⟩) n cap4] 27))
    generalize w4.alloc (.cells #[.int .i64 (W : Nat), .int .i64 (H : Nat), .slice (some ⟨g, 0, none⟩) n cap4] 27) = w5 at *
    obtain ⟨rb, hrb⟩ : ∃ rb, rb = w4.heap.size := ⟨_, rfl⟩
    rw [← hrb] at HR5 hgl hw4 ⊢
    clear hrb hX4 HGC HB4
    obtain ⟨j, hj⟩ : ∃ j, j = kd % 5 := ⟨_, rfl⟩
    have hj5 : j < 5 := by omega
    have f1 : (kd : Int) % 5 = (j : Int) := by omega
    have f2 : Int.tmod (kd : Int) 5 = (j : Int) := by rw [Int.tmod_eq_emod_of_nonneg (by omega), f1]
    clear hj
    go_cut [8, 9] (fun s8 s9 wx => s8 = .int .i64 (4 * (K : Int)) ∧ ∃ B, s9 = .pointer (some ⟨B, 0, none⟩) ∧ Below w5.heap.size w5 wx ∧ wx.heap[B]? = some (.cells #[.int .u16 ((colK j).1 : Nat), .int .u16 ((colK j).2.1 : Nat), .int .u16 ((colK j).2.2.1 : Nat), .int .u16 ((colK j).2.2.2 : Nat)] 41 (0, 0)))
    case first =>
      have hj6 : j = 0 ∨ j = 1 ∨ j = 2 ∨ j = 3 ∨ j = 4 := by omega
      rcases hj6 with rfl | rfl | rfl | rfl | rfl
      all_goals
        go_wp2_with fail
        go_meet
        refine ⟨by go_num, _, rfl, (((Below.refl _ w5).alloc (Nat.le_refl _) _).alloc (by simp) _), ?_⟩
        exact hp_new2 _ _ _
    case rest =>
    obtain ⟨rfl, B, rfl, hBc, hBB⟩ := hcut
    have HJ := Lib.hid f1
    clear f1 f2
    have hsz5 := hBc.size
    have hRc := hp_below HR5.out hBc (lt_heap HR5.out)
    have hGc := hp_below HG5.out hBc (lt_heap HG5.out)
    have HBc := Lib.hid (HB5.out.trans (hBc.mono HB5.out.size))
    have hw5 := HB5.out.size
    have k2 := hp_cell (j := 2) hRc rfl
    have hg5 := lt_heap HG5.out
    have hr5 := lt_heap HR5.out
    have HRc := Lib.hid hRc
    have hrun := run_copy_row (P := Try.prog) wc.drew 25 25 3 31 g (4 * K) 4 (cap4 - 4 * K) ⟨B, 0, none⟩ 4 4 cur _ (pix4 (colK j).1 (colK j).2.1 (colK j).2.2.1 (colK j).2.2.2) Try.underlying25 size38 hGc (show 4 = Nat.min 4 4 from rfl)
      (by
        intro i v hi
        match i, hi with
        | 0, hi => exact (hp_cell (j := 0) hBB rfl).trans hi
        | 1, hi => exact (hp_cell (j := 1) hBB rfl).trans hi
        | 2, hi => exact (hp_cell (j := 2) hBB rfl).trans hi
        | 3, hi => exact (hp_cell (j := 3) hBB rfl).trans hi) (by simp [pix4]; have := HN4.out; omega) (by simp [pix4, Value.oneCell'])
    have hgr : wc.grownBy (wc.drew.setRow g (setCur cur K (pix4 (colK j).1 (colK j).2.1 (colK j).2.2.1 (colK j).2.2.2))) (some g) := (grown_drewS _ _).trans (grown_setRow _ _ _)
    have HGh : Hid ((wc.drew.setRow g (setCur cur K (pix4 (colK j).1 (colK j).2.1 (colK j).2.2.1 (colK j).2.2.2))).heap[g]? = some (.cells (setCur cur K (pix4 (colK j).1 (colK j).2.1 (colK j).2.2.1 (colK j).2.2.2)) 31 (0, 0))) := Lib.hid (setRow_heap _ _ _ _ _ _ (show wc.drew.heap[g]? = some (.cells cur 31 (0, 0)) from hGc))
    have hl4 : (pix4 (colK j).1 (colK j).2.1 (colK j).2.2.1 (colK j).2.2.2).length = 4 := rfl
    change _ = Result.ok _ (wc.drew.setRow g (setCur cur K (pix4 (colK j).1 (colK j).2.1 (colK j).2.2.1 (colK j).2.2.2))) at hrun
    rw [hl4] at hrun
    have HR6 := Lib.hid ((hgr.block _ (lt_heap hRc) (fun e => by injection e; omega)).trans hRc)
    have HB6 := Lib.hid (HBc.out.grown hgr HBc.out.size (fun k e => by injection e; omega))
    have hK4 : 4 * K + 4 ≤ n := by have := HN4.out; omega
    have HO6 : Hid (Own w.heap.size (wc.drew.setRow g (setCur cur K (pix4 (colK j).1 (colK j).2.1 (colK j).2.2.1 (colK j).2.2.2))) (some ⟨g, 0, none⟩) n (setC c K (colK j))) := Lib.hid (fun _ => ⟨g, _, rfl, by omega, HGh.out, by rw [setCur_size _ _ _ (by simp [pix4]; omega)]; exact hcs, fun i hi => setCur_own HCC.out hcs K hK4 (colK j) i hi⟩)
    have hck : ¬cap4 = 4 * K := by omega
    have hlI : (4 : Int) * (K : Int) + 4 ≤ (n : Int) := by omega
    have hlC : (4 : Int) * (K : Int) + 4 ≤ (cap4 : Int) := by omega
    have hkn : (0 : Int) ≤ (K : Int) := by omega
    have v4 : IntKind.i64.wrap (4 * (K : Int) + 4) = 4 * (K : Int) + 4 := IntWalk.i64_in _ (by omega)
    clear hgr hl4 hRc hGc hBc hBB
    go_upto_region 8 with fail
    go_region
    clear hrun k2 v4
    generalize (wc.drew.setRow g (setCur cur K (pix4 (colK j).1 (colK j).2.1 (colK j).2.2.1 (colK j).2.2.2))) = w6 at *
    have hC6 : ∀ i, setC c K (colK j) i < 65536 := setC_lt HC.out K (colK_w4 j)
    have HC6 := Lib.hid hC6
    have hm6 : mayB (W : Nat) (H : Nat) n = true := fits_may HF.out
    have k0 := hp_cell (j := 0) HR6.out rfl
    have k1 := hp_cell (j := 1) HR6.out rfl
    have k2 := hp_cell (j := 2) HR6.out rfl
    have f1 : (kd : Int) % 5 = (j : Int) := HJ.out
    by_cases hj3 : j < 3
    · have hbad : fitsB (W : Nat) (H : Nat) n (setC c K (colK j)) 2 = false := by rw [HN4.out]; exact told_bad hKN hj3
      have f3 : decide ((j : Int) < 3) = true := by simp; omega
      have f4 : decide (j < 3) = true := by simp; omega
      go_wp2_with fail
      refine (genc_depth (W : Nat) (H : Nat) _ n cap4 _ HC6.out (by unfold In64; omega) (by unfold In64; omega) hn4' hc4 hm6 hbad _ HO6.out.pix).mono ?_
      rintro e w7 ⟨rfl, hB7⟩
      have HFn := Lib.hid (HB6.out.trans (hB7.mono HB6.out.size))
      clear hB7 hbad hm6 hC6
      go_wp2_with fail
      go_ret
      exact ⟨rfl, HFn.out⟩
    have f3 : decide ((j : Int) < 3) = false := by simp; omega
    have f4 : decide (j < 3) = false := by simp; omega
    have hgd : fitsB (W : Nat) (H : Nat) n (setC c K (colK j)) 2 = colB (setC c K (colK j)) N 256 := by
      have h := HF.out
      rw [HN4.out] at h ⊢
      exact told_good HC.out h hKN (by omega)
    have hcolV : colV (W : Nat) (H : Nat) n (setC c K (colK j)) 256 = .tuple #[.int .i64 (colN (setC c K (colK j)) N 256), .bool (colB (setC c K (colK j)) N 256)] := by
      unfold colV
      rw [if_pos hm6, show n / 4 = N by have := HN4.out; omega]
    have HCV := Lib.hid hcolV
    have HM6 := Lib.hid hm6
    cases hfew : colB (setC c K (colK j)) N 256 with
    | false =>
      rw [hfew] at hgd hcolV
      have HCV := Lib.hid hcolV
      clear hfew
      go_wp2_with fail
      refine (genc_depth (W : Nat) (H : Nat) _ n cap4 _ HC6.out (by unfold In64; omega) (by unfold In64; omega) hn4' hc4 hm6 hgd _ HO6.out.pix).mono ?_
      rintro e w7 ⟨rfl, hB7⟩
      have HB7 := Lib.hid (HB6.out.trans (hB7.mono HB6.out.size))
      have HR7 := Lib.hid (hp_below HR6.out hB7 (lt_heap HR6.out))
      have HO7 := Lib.hid (HO6.out.below hB7)
      clear hB7 hgd hm6 hC6 k0 k1 k2 hcolV
      go_wp2_with fail
      refine (gif_nil w7).mono ?_
      rintro e w8 ⟨rfl, hB8⟩
      have hal8 : Below w8.heap.size w8 (w8.alloc (.cells #[.int .i64 0, .int .i64 0, .slice none 0 0] 27)) := (Below.refl _ w8).alloc (Nat.le_refl _) _
      have hb9 := hB8.trans (hal8.mono hB8.size)
      have HB9 := Lib.hid (HB7.out.trans (hb9.mono HB7.out.size))
      have hR9 := hp_below HR7.out hb9 (lt_heap HR7.out)
      have HO9 := Lib.hid (HO7.out.below hb9)
      have k0 := hp_cell (j := 0) hR9 rfl
      have k1 := hp_cell (j := 1) hR9 rfl
      have k2 := hp_cell (j := 2) hR9 rfl
      clear hB8 hal8 hb9 hR9
      go_wp2_with fail
      refine (colr_any (W : Nat) (H : Nat) _ n cap4 _ HC6.out 256 (by unfold In64; omega) (by unfold In64; omega) hn4' hc4 _ HO9.out.pix).mono ?_
      rintro e w10 ⟨rfl, hB10⟩
      rw [HCV.out]
      have HFn := Lib.hid (HB9.out.trans (hB10.mono HB9.out.size))
      clear hB10 k0 k1 k2
      go_wp2_with fail
      go_ret
      exact ⟨rfl, HFn.out⟩
    | true =>
      rw [hfew] at hgd hcolV
      have HCV := Lib.hid hcolV
      have HGD := Lib.hid hgd
      clear hfew hcolV
      go_wp2_with fail
      refine (enc_yes W H n (by rw [HN4.out, HAB.out]) hn40 _ cap4 _ HC6.out hgd hn4' hc4 _ HO6.out.pix).mono ?_
      rintro e w7 ⟨A7, cap7, m7, rfl, hm7, _, hN7, hB7⟩
      have HB7 := Lib.hid (HB6.out.trans (hB7.mono HB6.out.size))
      have HR7 := Lib.hid (hp_below HR6.out hB7 (lt_heap HR6.out))
      have HO7 := Lib.hid (HO6.out.below hB7)
      have HM7 := Lib.hid hm7
      have HN7 := Lib.hid hN7
      clear hB7 hgd hm6 hC6 k0 k1 k2 hm7 hN7
      go_wp2_with fail
      refine (gif_back_n W H n m7 (by rw [HN4.out, HAB.out]) _ HC6.out HGD.out HM7.out A7 cap7 _ w7 HN7.out).mono ?_
      rintro e w8 ⟨A8, cap8, rfl, hn8, hc8, hO8, hB8⟩
      have hal8 : Below w8.heap.size w8 (w8.alloc (.cells #[.int .i64 (W : Nat), .int .i64 (H : Nat), .slice A8 n cap8] 27)) := (Below.refl _ w8).alloc (Nat.le_refl _) _
      have hb9 := hB8.trans (hal8.mono hB8.size)
      have HB9 := Lib.hid (HB7.out.trans (hb9.mono HB7.out.size))
      have hR9 := hp_below HR7.out hb9 (lt_heap HR7.out)
      have HO9 := Lib.hid (HO7.out.below hb9)
      have HP9 := Lib.hid (hO8.below hal8).pix
      have hQ9 := hp_new0 w8 (.cells #[.int .i64 (W : Nat), .int .i64 (H : Nat), .slice A8 n cap8] 27)
      have k0 := hp_cell (j := 0) hR9 rfl
      have k1 := hp_cell (j := 1) hR9 rfl
      have k2 := hp_cell (j := 2) hR9 rfl
      have HR9 := Lib.hid hR9
      have HQ9 := Lib.hid hQ9
      clear hB8 hal8 hb9 hR9 hQ9 hO8
      go_wp2_with fail
      generalize w8.alloc (.cells #[.int .i64 (W : Nat), .int .i64 (H : Nat), .slice A8 n cap8] 27) = w9 at *
      refine (colr_any (W : Nat) (H : Nat) _ n cap4 _ HC6.out 256 (by unfold In64; omega) (by unfold In64; omega) hn4' hc4 _ HO9.out.pix).mono ?_
      rintro e w10 ⟨rfl, hB10⟩
      rw [HCV.out]
      have HB10 := Lib.hid (HB9.out.trans (hB10.mono HB9.out.size))
      have hR10 := hp_below HR9.out hB10 (lt_heap HR9.out)
      have hQ10 := hp_below HQ9.out hB10 (lt_heap HQ9.out)
      have HO10 := Lib.hid (HO9.out.below hB10)
      have HP10 := Lib.hid (HP9.out.below hB10)
      clear k0 k1 k2 hB10
      have k0 := hp_cell (j := 0) hR10 rfl
      have k1 := hp_cell (j := 1) hR10 rfl
      have k2 := hp_cell (j := 2) hR10 rfl
      have q0 := hp_cell (j := 0) hQ10 rfl
      have q1 := hp_cell (j := 1) hQ10 rfl
      have q2 := hp_cell (j := 2) hQ10 rfl
      clear hR10 hQ10
      go_wp2_with fail
      refine (same_ref (W : Nat) (H : Nat) A8 n cap8 _ (W : Nat) (H : Nat) (some ⟨g, 0, none⟩) n cap4 _ (by unfold In64; omega) (by unfold In64; omega) (by unfold In64; omega) (by unfold In64; omega) hn8 hc8 hn4' hc4 _ HP10.out HO10.out.pix).mono ?_
      rintro e w11 ⟨rfl, hB11⟩
      rw [same_self (setC c K (colK j)) HM6.out]
      have HFn := Lib.hid (HB10.out.trans (hB11.mono HB10.out.size))
      clear hB11 k0 k1 k2 q0 q1 q2
      go_wp2_with fail
      go_ret
      exact ⟨rfl, HFn.out⟩
end Go.Proofs.Ytlgoohhfpmomhaa
