/- engraverref14.frame: the first frame of a GIF. Bytes as strings, held against a text; what pieces take. -/
import Derived.Test.YtkjlejkcedemlaaM12

namespace Go.Proofs.Ytkjlejkcedemlaa
set_option maxRecDepth 100000
set_option linter.unusedVariables false
open Go.ChangeShapes Go.WideShapes Go.ChangeAt Go.RowKit

/-- What a picture's reader answers: a picture of its own, or an error. -/
def picPost (a b : Nat) (r : (Nat → Nat) × Nat) (w : World) (e : Ending) (w' : World) : Prop :=
  Below w.heap.size w w' ∧
  ((r.2 = 0 ∧ ∃ A cap, 4 * (a * b) ≤ cap ∧ cap ≤ maxLen ∧ e = .returned (.tuple #[.agg #[.int .i64 (a : Nat), .int .i64 (b : Nat), .slice A (4 * (a * b)) cap], .int .i64 0]) ∧ Own w.heap.size w' A (4 * (a * b)) r.1) ∨
   (r.2 ≠ 0 ∧ e = .returned (.tuple #[.agg #[.int .i64 0, .int .i64 0, .slice none 0 0], .int .i64 (r.2 : Nat)])))
theorem and128 (x : Nat) (hx : x < 256) : (bits .and .u8 (x : Int) 128 == 128) = decide (x / 128 = 1) := by
  have h := u8_and_nat x 128 hx (by omega)
  rw [show ((128 : Nat) : Int) = 128 from rfl] at h
  rw [h]
  have k : ∀ y : Fin 256, ((((y.val &&& 128 : Nat) : Int)) == 128) = decide (y.val / 128 = 1) := by decide
  exact k ⟨x, hx⟩
theorem and64 (x : Nat) (hx : x < 256) : (bits .and .u8 (x : Int) 64 == 64) = decide (x / 64 % 2 = 1) := by
  have h := u8_and_nat x 64 hx (by omega)
  rw [show ((64 : Nat) : Int) = 64 from rfl] at h
  rw [h]
  have k : ∀ y : Fin 256, ((((y.val &&& 64 : Nat) : Int)) == 64) = decide (y.val / 64 % 2 = 1) := by decide
  exact k ⟨x, hx⟩
theorem unF_lt {b : Nat → Nat} (hb : ∀ i, b i < 256) (n : Nat) : ∀ (K at_ : Nat) (out : List Nat), (∀ v ∈ out, v < 256) → ∀ v ∈ (unF b n K at_ out).1, v < 256 := by
  intro K
  induction K with
  | zero => intro at_ out _ v hv; simp [unF] at hv
  | succ K ih =>
    intro at_ out ho v hv
    rw [unF] at hv
    split at hv
    · simp at hv
    · split at hv
      · exact ho v hv
      · split at hv
        · simp at hv
        · refine ih _ _ ?_ v hv
          intro u hu
          rw [List.mem_append] at hu
          rcases hu with hu | hu
          · exact ho u hu
          · obtain ⟨i, -, rfl⟩ := List.mem_map.1 hu
            exact hb _
theorem un_lt {b : Nat → Nat} (hb : ∀ i, b i < 256) (n : Nat) : ∀ v ∈ (unV b n).1, v < 256 := unF_lt hb n _ _ _ (by simp)
theorem unF_len (b : Nat → Nat) (n : Nat) : ∀ (K at_ : Nat) (out : List Nat), out.length ≤ at_ → out.length ≤ n → (unF b n K at_ out).1.length ≤ n := by
  intro K
  induction K with
  | zero => intro at_ out _ _; simp [unF]
  | succ K ih =>
    intro at_ out h1 h2
    rw [unF]
    split
    · simp
    · split
      · exact h2
      · split
        · simp
        · refine ih _ _ ?_ ?_
          · simp; omega
          · simp; omega
theorem un_len (b : Nat → Nat) (n : Nat) : (unV b n).1.length ≤ n := unF_len b n _ _ _ (by simp) (by simp)
theorem gz_lt8 {l : List Nat} (h : ∀ v ∈ l, v < 256) (i : Nat) : gz l i < 256 := by
  unfold gz
  cases hi : l[i]? with
  | none => simp
  | some v => exact h v (List.mem_of_getElem? hi)
/-- The colours stand. -/
def ColAt (w0 : World) (v : Value) (L : List P4) (w : World) : Prop := Below w0.heap.size w0 w ∧ ∃ AL capL, v = .slice AL L.length capL ∧ Sl w (.slice AL L.length capL) 4 L.length (cellsP L)
set_option maxRecDepth 100000 in
set_option maxHeartbeats 4000000 in
theorem frame_ref (A : Option Addr) (m cap : Nat) (b : Nat → Nat) (hbt : ∀ i, b i < 256) (hm : m ≤ cap) (hmax : cap ≤ maxLen) (hA : A = none → cap = 0) (hsm : m ≤ 262144) (p W H : Nat) (hz : sizeE W H = 0) (hp : p ≤ m) (AL : Option Addr) (capL : Nat) (L : List P4) (hL : L.length ≤ 256) (clear : Int) (hc1 : -1 ≤ clear) (hc2 : clear < 256) (w : World) (hB : Byt w A m b) (hSl : Sl w (.slice AL L.length capL) 4 L.length (cellsP L)) :
    Calls Try.prog 27 #[.slice A m cap, .int .i64 (p : Nat), .int .i64 (W : Nat), .int .i64 (H : Nat), .slice AL L.length capL, .int .i64 clear] w (picPost W H (frameG b m p W H L clear) w) := by
  obtain ⟨s1, s2, s3, s4, s5⟩ := size_ok hz
  have HZ := Lib.hid hz
  have HB := Lib.hid hB
  have HSl := Lib.hid hSl
  have HBT := Lib.hid hbt
  have HMX := Lib.hid hmax
  have HA := Lib.hid hA
  clear hz hB hSl hbt hA
  unfold maxLen at hmax
  have hr0 := hp_new0 w (.cells #[.int .i64 0, .int .i64 0, .slice none 0 0] 26)
  have hW0 : Below w.heap.size w (w.alloc (.cells #[.int .i64 0, .int .i64 0, .slice none 0 0] 26)) := (Below.refl _ w).alloc (Nat.le_refl _) _
  obtain ⟨g, hg⟩ : ∃ g, g = w.heap.size := ⟨_, rfl⟩
  obtain ⟨r, hr⟩ : ∃ r, r = frameG b m p W H L clear := ⟨_, rfl⟩
  rw [← hr]
  have HR := Lib.hid hr
  have l0 := hp_cell (j := 0) hr0 rfl
  have l1 := hp_cell (j := 1) hr0 rfl
  have l2 := hp_cell (j := 2) hr0 rfl
  have lf : ∀ j, (w.alloc (.cells #[.int .i64 0, .int .i64 0, .slice none 0 0] 26)).frozen? ⟨w.heap.size, j, none⟩ = false := fun j => by rw [World.frozen?, hr0]; simp
  have HR0 := Lib.hid hr0
  have HW0 := Lib.hid hW0
  have HBW := Lib.hid (HB.out.below hW0)
  clear hr hr0 hW0
  have hBel : ∀ wx, Below w.heap.size w wx → Below w.heap.size w (((wx.setCell ⟨w.heap.size, 0, none⟩ (.int .i64 0)).setCell ⟨w.heap.size, 1, none⟩ (.int .i64 0)).setCell ⟨w.heap.size, 2, none⟩ (.slice none 0 0)) := fun wx h =>
    ((h.setCell (p := ⟨w.heap.size, 0, none⟩) (Nat.le_refl _) _).setCell (p := ⟨w.heap.size, 1, none⟩) (Nat.le_refl _) _).setCell (p := ⟨w.heap.size, 2, none⟩) (Nat.le_refl _) _
  have HBel := Lib.hid hBel
  clear hBel
  go_enter Try.func27, Try.ntmps27
  by_cases e1 : m < p + 9
  · have t1 : decide ((m : Int) - (p : Int) < 9) = true := by simp; omega
    have hrr := HR.out
    unfold frameG at hrr
    rw [if_pos e1] at hrr
    have HRR := Lib.hid hrr
    clear hrr
    go_wp2
    refine bodyPost_ret (v := .tuple #[.agg #[.int .i64 0, .int .i64 0, .slice none 0 0], .int .i64 2]) (by rw [results_cell_tmp rfl]; go_simp) rfl ?_
    rw [HRR.out]
    exact ⟨HW0.out, .inr ⟨by decide, rfl⟩⟩
  have t1 : decide ((m : Int) - (p : Int) < 9) = false := by simp; omega
  go_upto_region 3 with fail
  generalize w.alloc (.cells #[.int .i64 0, .int .i64 0, .slice none 0 0] 26) = w1 at *
  have hlt := lowD_lt HBT.out
  have x0 := hlt p 2
  have x1 := hlt (p + 2) 2
  have x2 := hlt (p + 4) 2
  have x3 := hlt (p + 6) 2
  have hb8 := HBT.out (p + 8)
  have hrr := HR.out
  unfold frameG at hrr
  rw [if_neg e1] at hrr
  clear hlt
  obtain ⟨le, hle⟩ : ∃ q, q = lowD b p 2 := ⟨_, rfl⟩
  obtain ⟨tp, hto⟩ : ∃ q, q = lowD b (p + 2) 2 := ⟨_, rfl⟩
  obtain ⟨fw, hfw⟩ : ∃ q, q = lowD b (p + 4) 2 := ⟨_, rfl⟩
  obtain ⟨fh, hfh⟩ : ∃ q, q = lowD b (p + 6) 2 := ⟨_, rfl⟩
  obtain ⟨fl, hfl⟩ : ∃ q, q = b (p + 8) := ⟨_, rfl⟩
  rw [← hle] at hrr x0
  rw [← hto] at hrr x1
  rw [← hfw] at hrr x2
  rw [← hfh] at hrr x3
  rw [← hfl] at hrr hb8
  have HRR := Lib.hid hrr
  clear hrr
  obtain ⟨bk, of, hAe, hbk, hci⟩ := HBW.out (by omega)
  have c8 := hci (p + 8) (by omega)
  rw [← hfl] at c8
  have Q0 := Lib.hid hle
  have Q1 := Lib.hid hto
  have Q2 := Lib.hid hfw
  have Q3 := Lib.hid hfh
  have HC := Lib.hid hci
  clear hle hto hfw hfh hfl hci
  rw [show (256 : Nat) ^ 2 = 65536 from rfl] at x0 x1 x2 x3
  subst hAe
  have L0 : ∀ n, Calls Try.prog 24 #[.slice (some ⟨bk, of, none⟩) m cap, .int .i64 (p : Nat), .int .i64 2] (w1.drewN n) fun e w' => e = .returned (.int .i64 (le : Nat)) ∧ ∃ k, w' = w1.drewN k := fun n => by
    rw [Q0.out]
    refine (low_ref _ m cap b HBT.out p 2 (by omega) (by omega) hm HMX.out _ (HBW.out.below (below_drewN (Below.refl _ _) _))).mono fun _ _ h => ⟨h.1, n, h.2⟩
  have L1 : ∀ n, Calls Try.prog 24 #[.slice (some ⟨bk, of, none⟩) m cap, .int .i64 ((p : Int) + 2), .int .i64 2] (w1.drewN n) fun e w' => e = .returned (.int .i64 (tp : Nat)) ∧ ∃ k, w' = w1.drewN k := fun n => by
    rw [Q1.out]
    refine (low_ref _ m cap b HBT.out (p + 2) 2 (by omega) (by omega) hm HMX.out _ (HBW.out.below (below_drewN (Below.refl _ _) _))).mono fun _ _ h => ⟨h.1, n, h.2⟩
  have L2 : ∀ n, Calls Try.prog 24 #[.slice (some ⟨bk, of, none⟩) m cap, .int .i64 ((p : Int) + 4), .int .i64 2] (w1.drewN n) fun e w' => e = .returned (.int .i64 (fw : Nat)) ∧ ∃ k, w' = w1.drewN k := fun n => by
    rw [Q2.out]
    refine (low_ref _ m cap b HBT.out (p + 4) 2 (by omega) (by omega) hm HMX.out _ (HBW.out.below (below_drewN (Below.refl _ _) _))).mono fun _ _ h => ⟨h.1, n, h.2⟩
  have L3 : ∀ n, Calls Try.prog 24 #[.slice (some ⟨bk, of, none⟩) m cap, .int .i64 ((p : Int) + 6), .int .i64 2] (w1.drewN n) fun e w' => e = .returned (.int .i64 (fh : Nat)) ∧ ∃ k, w' = w1.drewN k := fun n => by
    rw [Q3.out]
    refine (low_ref _ m cap b HBT.out (p + 6) 2 (by omega) (by omega) hm HMX.out _ (HBW.out.below (below_drewN (Below.refl _ _) _))).mono fun _ _ h => ⟨h.1, n, h.2⟩
  have i2 : IntKind.i64.wrap ((p : Int) + 2) = (p : Int) + 2 := IntWalk.i64_in _ (by omega)
  have i4 : IntKind.i64.wrap ((p : Int) + 4) = (p : Int) + 4 := IntWalk.i64_in _ (by omega)
  have i6 : IntKind.i64.wrap ((p : Int) + 6) = (p : Int) + 6 := IntWalk.i64_in _ (by omega)
  have i8 : IntKind.i64.wrap ((p : Int) + 8) = (p : Int) + 8 := IntWalk.i64_in _ (by omega)
  go_quiet (first | (go_at_call 24; with_reducible exact L0 _) | (go_at_call 24; with_reducible exact L1 _) | (go_at_call 24; with_reducible exact L2 _) | (go_at_call 24; with_reducible exact L3 _))
  clear L0 L1 L2 L3 i2 i4 i6 i8
  have HR2 : Hid ((w1.drewN nq).heap[w.heap.size]? = some (.cells #[.int .i64 0, .int .i64 0, .slice none 0 0] 26 (0, 0))) := Lib.hid HR0.out
  have HB2 : Hid (Below w.heap.size w (w1.drewN nq)) := Lib.hid (below_drewN HW0.out nq)
  clear l0 l1 l2 lf HR0 HW0 HBW c8 HC hbk
  generalize w1.drewN nq = w2 at *
  have l0 := hp_cell (j := 0) HR2.out rfl
  have l1 := hp_cell (j := 1) HR2.out rfl
  have l2 := hp_cell (j := 2) HR2.out rfl
  have lf : ∀ j, w2.frozen? ⟨w.heap.size, j, none⟩ = false := fun j => by rw [World.frozen?, HR2.out]; simp
  by_cases c1 : fw = 0
  · have t2 : ((fw : Int) == 0) = true := by simp; omega
    have HE := HRR.out
    rw [if_pos (by omega)] at HE
    replace HE := Lib.hid HE
    go_wp2
    refine bodyPost_ret (v := .tuple #[.agg #[.int .i64 0, .int .i64 0, .slice none 0 0], .int .i64 4]) (by rw [results_cell_tmp rfl]; go_simp) rfl ?_
    rw [HE.out]
    exact ⟨by first | exact HB2.out | exact HBel.out _ HB2.out, .inr ⟨by decide, rfl⟩⟩
  have t2 : ((fw : Int) == 0) = false := by simp; omega
  by_cases c2 : fh = 0
  · have t3 : ((fh : Int) == 0) = true := by simp; omega
    have HE := HRR.out
    rw [if_pos (by omega)] at HE
    replace HE := Lib.hid HE
    go_wp2
    refine bodyPost_ret (v := .tuple #[.agg #[.int .i64 0, .int .i64 0, .slice none 0 0], .int .i64 4]) (by rw [results_cell_tmp rfl]; go_simp) rfl ?_
    rw [HE.out]
    exact ⟨by first | exact HB2.out | exact HBel.out _ HB2.out, .inr ⟨by decide, rfl⟩⟩
  have t3 : ((fh : Int) == 0) = false := by simp; omega
  by_cases c3 : W < le + fw
  · have t4 : decide ((W : Int) < (le : Int) + (fw : Int)) = true := by simp; omega
    have HE := HRR.out
    rw [if_pos (by omega)] at HE
    replace HE := Lib.hid HE
    go_wp2
    refine bodyPost_ret (v := .tuple #[.agg #[.int .i64 0, .int .i64 0, .slice none 0 0], .int .i64 4]) (by rw [results_cell_tmp rfl]; go_simp) rfl ?_
    rw [HE.out]
    exact ⟨by first | exact HB2.out | exact HBel.out _ HB2.out, .inr ⟨by decide, rfl⟩⟩
  have t4 : decide ((W : Int) < (le : Int) + (fw : Int)) = false := by simp; omega
  by_cases c4 : H < tp + fh
  · have t5 : decide ((H : Int) < (tp : Int) + (fh : Int)) = true := by simp; omega
    have HE := HRR.out
    rw [if_pos (by omega)] at HE
    replace HE := Lib.hid HE
    go_wp2
    refine bodyPost_ret (v := .tuple #[.agg #[.int .i64 0, .int .i64 0, .slice none 0 0], .int .i64 4]) (by rw [results_cell_tmp rfl]; go_simp) rfl ?_
    rw [HE.out]
    exact ⟨by first | exact HB2.out | exact HBel.out _ HB2.out, .inr ⟨by decide, rfl⟩⟩
  have t5 : decide ((H : Int) < (tp : Int) + (fh : Int)) = false := by simp; omega
  have HE := HRR.out
  rw [if_neg (by omega)] at HE
  replace HE := Lib.hid HE
  clear HRR HR
  go_upto_if 82 with fail
  go_cut [1, 4] (fun s1 s4 wx => ∃ (q : Nat) (L2 : List P4), s1 = .int .i64 (q : Nat) ∧ q ≤ m ∧ L2.length ≤ 256 ∧ ColAt w2 s4 L2 wx ∧ Hid (r = pixG b m q W H le tp fw fh (decide (fl / 64 % 2 = 1)) L2 clear))
  case first =>
    by_cases cf : fl / 128 = 1
    · have HE1 := HE.out
      rw [if_pos cf] at HE1
      replace HE1 := Lib.hid HE1
      have f1 := and128 fl hb8
      rw [decide_eq_true cf] at f1
      go_upto_region 9 with fail
      clear f1
      obtain ⟨N, hN⟩ : ∃ N, N = 2 ^ (fl % 8 + 1) := ⟨_, rfl⟩
      have hN1 : N ≤ 256 := by
        rw [hN]
        exact Nat.le_trans (Nat.pow_le_pow_right (by omega) (show fl % 8 + 1 ≤ 8 by omega)) (by decide)
      have HWP : wrap64 (3 * 2 ^ (fl % 8 + 1)) = 3 * (N : Int) := by
        rw [hN]
        rw [IntWalk.wrap64_in _ (by
          have e : (2 : Int) ^ (fl % 8 + 1) = ((2 ^ (fl % 8 + 1) : Nat) : Int) := by simp
          rw [e, ← hN]
          omega)]
        simp
      rw [HWP]
      have HE2 := HE1.out
      rw [← hN] at HE2
      clear HWP hN
      by_cases cs : m < p + 9 + 3 * N
      · rw [if_pos cs] at HE2
        replace HE2 := Lib.hid HE2
        have t6 : decide ((m : Int) - ((p : Int) + 9) < 3 * (N : Int)) = true := by simp; omega
        go_wp2
        refine bodyPost_ret (v := .tuple #[.agg #[.int .i64 0, .int .i64 0, .slice none 0 0], .int .i64 2]) (by rw [results_cell_tmp rfl]; go_simp) rfl ?_
        rw [HE2.out]
        exact ⟨by first | exact HB2.out | exact HBel.out _ HB2.out, .inr ⟨by decide, rfl⟩⟩
      · rw [if_neg cs] at HE2
        replace HE2 := Lib.hid HE2
        have t6 : decide ((m : Int) - ((p : Int) + 9) < 3 * (N : Int)) = false := by simp; omega
        have RM := run_mid (some ⟨bk, of, none⟩) m cap (p + 9) (3 * N) (by omega)
        have hPf := ((HB.out.below HB2.out).from hm (q := p + 9) (k := 3 * N) (by omega))
        obtain ⟨Z, hZ⟩ : ∃ Z, Z = (if cap = p + 9 then (some ⟨bk, of, none⟩ : Option Addr) else (some ⟨bk, of, none⟩ : Option Addr).map (·.add (p + 9))) := ⟨_, rfl⟩
        rw [← hZ] at RM hPf
        rw [show ((p + 9 : Nat) : Int) = (p : Int) + 9 by omega, show ((3 * N : Nat) : Int) = 3 * (N : Int) by omega] at RM
        have HPF := Lib.hid hPf
        clear hPf hZ
        go_wp2_with fail
        all_goals (
          refine (table_ref Z (3 * N) (cap - (p + 9)) (fun i => b (p + 9 + i)) (fun i => HBT.out _) (by omega) (by unfold maxLen; omega) (by omega) w2 HPF.out).mono ?_
          rintro e w3 ⟨v3, rfl, ho3, hb3⟩
          have e3 : 3 * N / 3 = N := by omega
          have eT : tabC (fun i => b (p + 9 + i)) 0 N = tabC b (p + 9) N := by
            unfold tabC
            refine List.map_congr_left fun i _ => ?_
            simp only [Nat.zero_add, Nat.add_assoc]
          rw [e3, eT] at ho3
          have hs3 := Sl.of_own ho3
          obtain ⟨-, A3, c3', rfl, -⟩ := Sl.of_own ho3
          have HS3 : Hid (Sl w3 (.slice A3 N c3') 4 N (cellsP (tabC b (p + 9) N))) := Lib.hid hs3
          have HB3 := Lib.hid hb3
          clear ho3 hs3 hb3 RM
          go_wp2_with fail
          go_meet
          refine ⟨p + 9 + 3 * N, tabC b (p + 9) N, by go_num, by omega, by rw [tabC_len]; exact hN1, ⟨HB3.out, A3, c3', by rw [tabC_len], by rw [tabC_len]; exact HS3.out⟩, HE2⟩)
    · have HE1 := HE.out
      rw [if_neg cf] at HE1
      replace HE1 := Lib.hid HE1
      have f1 := and128 fl hb8
      rw [decide_eq_false cf] at f1
      go_wp2_with fail
      go_meet
      exact ⟨p + 9, L, by go_num, by omega, hL, ⟨Below.refl _ _, AL, capL, rfl, HSl.out.below HB2.out⟩, HE1⟩
  case rest =>
  obtain ⟨q, L2, rfl, hq, hL2, ⟨hBc, AL2, capL2, rfl, hS2⟩, hr2⟩ := hcut
  clear l0 l1 l2 lf HE
  have hlt2 : w.heap.size < w2.heap.size := (Array.getElem?_eq_some_iff.1 HR2.out).1
  have HRc : Hid (wc.heap[w.heap.size]? = some (.cells #[.int .i64 0, .int .i64 0, .slice none 0 0] 26 (0, 0))) := Lib.hid (hp_below HR2.out hBc hlt2)
  have HBc : Hid (Below w.heap.size w wc) := Lib.hid (HB2.out.trans (hBc.mono (by omega)))
  have hBy := HB.out.below HBc.out
  have HS2 := Lib.hid hS2
  have l0 := hp_cell (j := 0) HRc.out rfl
  have l1 := hp_cell (j := 1) HRc.out rfl
  have l2 := hp_cell (j := 2) HRc.out rfl
  have lf : ∀ j, wc.frozen? ⟨w.heap.size, j, none⟩ = false := fun j => by rw [World.frozen?, HRc.out]; simp
  have HBY := Lib.hid hBy
  clear hBc hS2 hBy HR2 HB2 t1 t2 t3 t4 t5 hlt2
  have hr3 := hr2.out
  unfold pixG at hr3
  by_cases d1 : L2 = []
  · rw [if_pos d1] at hr3
    subst d1
    have HE := Lib.hid hr3
    clear hr2 hr3
    go_wp2
    refine bodyPost_ret (v := .tuple #[.agg #[.int .i64 0, .int .i64 0, .slice none 0 0], .int .i64 4]) (by rw [results_cell_tmp rfl]; go_simp) rfl ?_
    rw [HE.out]
    exact ⟨by first | exact HBc.out | exact HBel.out _ HBc.out, .inr ⟨by decide, rfl⟩⟩
  rw [if_neg d1] at hr3
  have d1' : 0 < L2.length := List.length_pos_iff.2 d1
  have t1 : ((L2.length : Int) == 0) = false := by simp; omega
  by_cases d2 : m ≤ q
  · rw [if_pos d2] at hr3
    have t2 : decide (m ≤ q) = true := by simp; omega
    have HE := Lib.hid hr3
    clear hr2 hr3
    go_wp2
    refine bodyPost_ret (v := .tuple #[.agg #[.int .i64 0, .int .i64 0, .slice none 0 0], .int .i64 2]) (by rw [results_cell_tmp rfl]; go_simp) rfl ?_
    rw [HE.out]
    exact ⟨by first | exact HBc.out | exact HBel.out _ HBc.out, .inr ⟨by decide, rfl⟩⟩
  rw [if_neg d2] at hr3
  have t2 : decide (m ≤ q) = false := by simp; omega
  have c0 : wc.cell? ⟨bk, of + q, none⟩ = some (.int .u8 (b q : Nat)) := by
    obtain ⟨_, _, he, _, hci⟩ := HBY.out (by omega)
    cases he
    exact hci q (by omega)
  have hb0 := HBT.out q
  obtain ⟨sz, hsz⟩ : ∃ x, x = b q := ⟨_, rfl⟩
  rw [← hsz] at c0 hb0 hr3
  have HSZ := Lib.hid hsz
  clear hsz
  by_cases d3 : sz < 2 ∨ 8 < sz
  · rw [if_pos d3] at hr3
    have HE := Lib.hid hr3
    clear hr2 hr3
    by_cases d4 : sz < 2
    · have t3 : decide (sz < 2) = true := by simp; omega
      go_wp2
      refine bodyPost_ret (v := .tuple #[.agg #[.int .i64 0, .int .i64 0, .slice none 0 0], .int .i64 4]) (by rw [results_cell_tmp rfl]; go_simp) rfl ?_
      rw [HE.out]
      exact ⟨by first | exact HBc.out | exact HBel.out _ HBc.out, .inr ⟨by decide, rfl⟩⟩
    · have t3 : decide (sz < 2) = false := by simp; omega
      have t4 : decide (8 < sz) = true := by simp; omega
      go_wp2
      refine bodyPost_ret (v := .tuple #[.agg #[.int .i64 0, .int .i64 0, .slice none 0 0], .int .i64 4]) (by rw [results_cell_tmp rfl]; go_simp) rfl ?_
      rw [HE.out]
      exact ⟨by first | exact HBc.out | exact HBel.out _ HBc.out, .inr ⟨by decide, rfl⟩⟩
  rw [if_neg d3] at hr3
  have t3 : decide (sz < 2) = false := by simp; omega
  have t4 : decide (8 < sz) = false := by simp; omega
  have HE := Lib.hid hr3
  clear hr2 hr3
  have RM := run_lo (some ⟨bk, of, none⟩) m cap (q + 1) (by omega)
  have hPf := (HBY.out.from hm (q := q + 1) (k := m - (q + 1)) (by omega))
  have hZn : (if cap = q + 1 then (some ⟨bk, of, none⟩ : Option Addr) else (some ⟨bk, of, none⟩ : Option Addr).map (·.add (q + 1))) = none → cap - (q + 1) = 0 := by
    split
    · intro h; cases h
    · intro h; simp at h
  obtain ⟨Z, hZ⟩ : ∃ Z, Z = (if cap = q + 1 then (some ⟨bk, of, none⟩ : Option Addr) else (some ⟨bk, of, none⟩ : Option Addr).map (·.add (q + 1))) := ⟨_, rfl⟩
  rw [← hZ] at RM hPf hZn
  rw [show ((q + 1 : Nat) : Int) = (q : Int) + 1 by omega] at RM
  have HPF := Lib.hid hPf
  have HZN := Lib.hid hZn
  clear hPf hZ hZn
  go_wp2_with fail
  refine (unb_ref Z (m - (q + 1)) (cap - (q + 1)) (fun i => b (q + 1 + i)) (fun i => HBT.out _) (by omega) (by unfold maxLen; omega) HZN.out (by omega) wc HPF.out).mono ?_
  clear RM
  obtain ⟨U, hU⟩ : ∃ U, U = unV (fun i => b (q + 1 + i)) (m - (q + 1)) := ⟨_, rfl⟩
  have hu1 := un_lt (b := fun i => b (q + 1 + i)) (fun i => HBT.out _) (m - (q + 1))
  have hu2 := un_len (fun i => b (q + 1 + i)) (m - (q + 1))
  have hE2 := HE.out
  rw [← hU] at hu1 hu2 hE2 ⊢
  have HU := Lib.hid hU
  clear hU HE
  obtain ⟨U1, U2, U3⟩ := U
  dsimp only at hu1 hu2 hE2 ⊢
  have HU1 := Lib.hid hu1
  clear hu1
  rintro e w4 ⟨A4, cap4, rfl, hN4, hB4⟩
  have hltc : w.heap.size < wc.heap.size := (Array.getElem?_eq_some_iff.1 HRc.out).1
  have HR4 : Hid (w4.heap[w.heap.size]? = some (.cells #[.int .i64 0, .int .i64 0, .slice none 0 0] 26 (0, 0))) := Lib.hid (hp_below HRc.out hB4 hltc)
  have HB4 : Hid (Below w.heap.size w w4) := Lib.hid (HBc.out.trans (hB4.mono (by omega)))
  have HS4 := Lib.hid (HS2.out.below hB4)
  have HN4 := Lib.hid hN4
  clear hN4 hB4 hltc l0 l1 l2 lf c0 HBc HS2 HBY HPF HZN HRc t3 t4 t1 t2
  have l0 := hp_cell (j := 0) HR4.out rfl
  have l1 := hp_cell (j := 1) HR4.out rfl
  have l2 := hp_cell (j := 2) HR4.out rfl
  have lf : ∀ j, w4.frozen? ⟨w.heap.size, j, none⟩ = false := fun j => by rw [World.frozen?, HR4.out]; simp
  by_cases d5 : U3 = 0
  case neg =>
    rw [if_pos d5] at hE2
    have HE := Lib.hid hE2
    have HD := Lib.hid d5
    have t5 : ((U3 : Int) != 0) = true := by simp; omega
    clear hE2 d5
    go_wp2
    refine bodyPost_ret (v := .tuple #[.agg #[.int .i64 0, .int .i64 0, .slice none 0 0], .int .i64 (U3 : Nat)]) (by rw [results_cell_tmp rfl]; go_simp) rfl ?_
    rw [HE.out]
    exact ⟨by first | exact HB4.out | exact HBel.out _ HB4.out, .inr ⟨HD.out, rfl⟩⟩
  subst d5
  rw [if_neg (by omega)] at hE2
  have HE := Lib.hid hE2
  clear hE2
  go_wp2_with fail
  have hfh : fw * fh ≤ 16384 := by
    clear HE HU l0 l1 l2 lf
    have h1 : fw * fh ≤ W * H := Nat.mul_le_mul (by omega) (by omega)
    have h2 : ((W * H : Nat) : Int) ≤ 16384 := by rw [Int.natCast_mul]; exact s5
    exact Nat.le_trans h1 (by exact_mod_cast h2)
  obtain ⟨F, hF⟩ : ∃ F, F = fw * fh := ⟨_, rfl⟩
  have hFI : (fw : Int) * (fh : Int) = (F : Int) := by rw [hF, Int.natCast_mul]
  rw [← hF] at hfh
  have hRL := (read_ref A4 U1.length cap4 (gz U1) (gz_lt8 HU1.out) HN4.out.le HN4.out.max HN4.out.nil (Nat.le_trans hu2 (by omega)) (sz : Nat) (F : Nat) (by omega) w4 HN4.out.byt)
  clear HN4
  have HF0 := Lib.hid hF
  clear hF
  rw [hFI, IntWalk.wrap64_in (F : Int) (by omega)]
  with_reducible refine hRL.mono ?_
  obtain ⟨V, hV⟩ : ∃ V, V = lzwV (gz U1) U1.length (sz : Nat) (F : Nat) := ⟨_, rfl⟩
  have hv1 := lzwV_len (gz U1) U1.length (sz : Nat) (F : Nat)
  have hv2 := lzwV_lt (gz U1) U1.length (sz : Nat) (F : Nat)
  have hE3 := HE.out
  rw [← HF0.out] at hE3
  rw [← hV] at hE3 hv1 hv2 ⊢
  rw [Int.toNat_natCast] at hv1
  clear hV HE HU HU1 hRL
  obtain ⟨V1, V2⟩ := V
  dsimp only at hE3 hv1 hv2 ⊢
  have HV2 := Lib.hid hv2
  clear hv2
  rintro e w5 ⟨A5, cap5, rfl, hN5, hB5⟩
  have hlt4 : w.heap.size < w4.heap.size := lt_heap HR4.out
  have HR5 := Lib.hid (hp_below HR4.out hB5 hlt4)
  have HB5 := Lib.hid (HB4.out.trans (hB5.mono (by omega)))
  have HS5 := Lib.hid (HS4.out.below hB5)
  have HN5 := Lib.hid hN5
  clear hN5 hB5 hlt4 l0 l1 l2 lf HB4 HR4 HS4
  have l0 := hp_cell (j := 0) HR5.out rfl
  have l1 := hp_cell (j := 1) HR5.out rfl
  have l2 := hp_cell (j := 2) HR5.out rfl
  have lf : ∀ j, w5.frozen? ⟨w.heap.size, j, none⟩ = false := fun j => by rw [World.frozen?, HR5.out]; simp
  by_cases d6 : V2 = 0
  case neg =>
    rw [if_pos d6] at hE3
    have HE := Lib.hid hE3
    have HD := Lib.hid d6
    have t5 : ((V2 : Int) != 0) = true := by simp; omega
    clear hE3 d6
    go_wp2
    refine bodyPost_ret (v := .tuple #[.agg #[.int .i64 0, .int .i64 0, .slice none 0 0], .int .i64 (V2 : Nat)]) (by rw [results_cell_tmp rfl]; go_simp) rfl ?_
    rw [HE.out]
    exact ⟨by first | exact HB5.out | exact HBel.out _ HB5.out, .inr ⟨HD.out, rfl⟩⟩
  subst d6
  rw [if_neg (by omega)] at hE3
  by_cases d7 : V1.length < F
  · rw [if_pos d7] at hE3
    have HE := Lib.hid hE3
    have t5 : decide (V1.length < F) = true := by simp; omega
    have t6 : decide ((V1.length : Int) < (F : Int)) = true := by simp; omega
    have hFW : wrap64 ((fw : Int) * (fh : Int)) = (F : Int) := by rw [hFI]; exact IntWalk.wrap64_in _ (by omega)
    clear hE3 hFI
    go_wp2
    refine bodyPost_ret (v := .tuple #[.agg #[.int .i64 0, .int .i64 0, .slice none 0 0], .int .i64 2]) (by rw [results_cell_tmp rfl]; go_simp) rfl ?_
    rw [HE.out]
    exact ⟨by first | exact HB5.out | exact HBel.out _ HB5.out, .inr ⟨by decide, rfl⟩⟩
  rw [if_neg d7] at hE3
  have t5 : decide (V1.length < F) = false := by simp; omega
  have t6 : decide ((V1.length : Int) < (F : Int)) = false := by simp; omega
  have hFW : wrap64 ((fw : Int) * (fh : Int)) = (F : Int) := by rw [hFI]; exact IntWalk.wrap64_in _ (by omega)
  have HE := Lib.hid hE3
  have HVF := Lib.hid (show V1.length = F by omega)
  clear hE3 hFI
  go_wp2_with fail
  clear hFW t6 t5 l0 l1 l2 lf
  have h1fh : 1 ≤ fh ∧ fh ≤ 256 := by omega
  have h1fw : 1 ≤ fw ∧ fw ≤ 256 := by omega
  refine (rows_ref fh h1fh.1 h1fh.2 w5).mono ?_
  rintro e w6 ⟨vR, rfl, hoR, hBR⟩
  have hlt5 : w.heap.size < w5.heap.size := lt_heap HR5.out
  obtain ⟨hRl, AR, cR, rfl, hR1, hR2, hR3⟩ := Sl.of_own hoR
  rw [rowsG_len fh h1fh.1] at hR1 hR3 hRl
  have hSR : Sl w6 (.slice AR fh cR) 1 fh (cellsI (rowsG fh)) := ⟨hRl, AR, cR, rfl, hR1, hR2, hR3⟩
  have HSR := Lib.hid hSR
  have HR6 := Lib.hid (hp_below HR5.out hBR hlt5)
  have HB6 := Lib.hid (HB5.out.trans (hBR.mono (by omega)))
  have HS6 := Lib.hid (HS5.out.below hBR)
  have HP6 := Lib.hid (HN5.out.byt.below hBR)
  rw [rowsG_len fh h1fh.1]
  clear hoR hBR hSR hR1 hR2 hR3 hRl hlt5 HR5 HB5 HS5
  go_wp2_with fail
  refine (new_ref (W : Nat) (H : Nat) (by unfold In64; omega) (by unfold In64; omega) _).mono ?_
  rintro e w7 ⟨hB, ⟨_, v, rfl, hown⟩ | ⟨h, _⟩⟩
  rotate_left
  · exact absurd HZ.out h
  have h4N : (4 * (W : Int) * (H : Int)).toNat = 4 * (W * H) := by
    rw [Int.mul_assoc, ← Int.natCast_mul]
    omega
  obtain ⟨n4, hn4⟩ : ∃ n4, n4 = 4 * (W * H) := ⟨_, rfl⟩
  rw [h4N, ← hn4, zeros_16] at hown
  obtain ⟨A', cap', rfl, hn', hc', _, hO⟩ := NewRow.of_row hown
  have hn40 : 0 < n4 := by
    have : 1 * 1 ≤ W * H := Nat.mul_le_mul (by omega) (by omega)
    omega
  have hlt6 : w.heap.size < w6.heap.size := lt_heap HR6.out
  obtain ⟨xb, hxb⟩ : ∃ xb, xb = w6.heap.size := ⟨_, rfl⟩
  rw [← hxb] at hB hO hlt6
  have HX := Lib.hid hxb
  have hs7 : xb ≤ w7.heap.size := by rw [hxb]; exact hB.size
  have hAr : ∀ k, A' = some ⟨k, 0, none⟩ → k < w7.heap.size := fun k hk => (hO.lt k hn40 hk).2
  have hal : Below w7.heap.size w7 (w7.alloc (.cells #[.int .i64 (W : Nat), .int .i64 (H : Nat), .slice A' n4 cap'] 26)) := (Below.refl _ w7).alloc (Nat.le_refl _) _
  have HO4 := Lib.hid (hO.below hal)
  have HR4 := Lib.hid (hp_new0 w7 (.cells #[.int .i64 (W : Nat), .int .i64 (H : Nat), .slice A' n4 cap'] 26))
  have HB7 := Lib.hid (hB.trans (hal.mono hs7))
  have HNE := Lib.hid (show ∀ k, 0 < n4 → A' = some ⟨k, 0, none⟩ → k ≠ w7.heap.size from fun k _ hk => Nat.ne_of_lt (hAr k hk))
  have HN4 := Lib.hid hn4
  clear hown hB hO h4N hn4 hal hAr hxb
  go_wp2_with fail
  generalize w7.alloc (.cells #[.int .i64 (W : Nat), .int .i64 (H : Nat), .slice A' n4 cap'] 26) = w8 at *
  obtain ⟨rb, hrb⟩ : ∃ rb, rb = w7.heap.size := ⟨_, rfl⟩
  rw [← hrb] at HR4 hs7 HNE ⊢
  clear hrb
  obtain ⟨lac, hlac⟩ : ∃ lac, lac = decide (fl / 64 % 2 = 1) := ⟨_, rfl⟩
  have hE4 := HE.out
  have f64 := and64 fl hb8
  rw [← hlac] at hE4 f64
  have HE4 := Lib.hid (show r = (match drawG W fw le tp lac (rowsG fh) L2 clear (V1.drop 0) 0 noP with | none => (noP, 4) | some c => (c, 0)) from hE4)
  clear hE4 HE hlac
  go_loopw [28] (fun x wr => ∃ (k : Nat) (ck : Nat → Nat), k ≤ F ∧ x = .int .i64 (k : Nat) ∧ Below xb w6 wr ∧ wr.heap[rb]? = some (.cells #[.int .i64 (W : Nat), .int .i64 (H : Nat), .slice A' n4 cap'] 26 (0, 0)) ∧ Own (xb + 1) wr A' n4 ck ∧ Hid (r = (match drawG W fw le tp lac (rowsG fh) L2 clear (V1.drop k) k ck with | none => (noP, 4) | some c => (c, 0)))) (fun x _ => F - (intOf x).toNat)
  case atStart => exact ⟨0, noP, by omega, rfl, HB7.out, HR4.out, HO4.out, HE4⟩
  case round =>
    clear HE4 HB7 HR4 HO4
    obtain ⟨k, ck, hkF, rfl, hB, hR, hO, hrr⟩ := hrel
    have hB' : Below w6.heap.size w6 wr := by rw [← HX.out]; exact hB
    have HRr := Lib.hid (hp_below HR6.out hB' (by rw [← HX.out]; exact hlt6))
    have HSr := Lib.hid (HSR.out.below hB')
    have HPr := Lib.hid (HP6.out.below hB')
    have HCr := Lib.hid (HS6.out.below hB')
    have HBr := Lib.hid (HB6.out.trans (hB'.mono (by rw [← HX.out]; omega)))
    have HXr := Lib.hid hB
    have hxr : xb ≤ wr.heap.size := by rw [HX.out]; exact hB.size
    have HBX := Lib.hid hR
    have HOX := Lib.hid hO
    clear hB hB' hR hO
    have e0 : (V1.length : Int) = (F : Int) := by rw [HVF.out]
    rw [HVF.out]
    by_cases hlt : k < F
    · obtain ⟨b5, o5, rfl, hb5, hc5⟩ := HPr.out (by rw [HVF.out]; omega)
      have c0 := hc5 k (by rw [HVF.out]; exact hlt)
      have hx8 := gz_lt8 HV2.out k
      have hdrop := drop_gz V1 k (by rw [HVF.out]; exact hlt)
      obtain ⟨x, hx⟩ : ∃ x, x = gz V1 k := ⟨_, rfl⟩
      rw [← hx] at c0 hx8 hdrop
      have hrr2 := hrr.out
      rw [hdrop, drawG] at hrr2
      have HRR := Lib.hid hrr2
      clear hrr hrr2 hdrop hx hc5
      obtain ⟨Y, hY⟩ : ∃ Y, Y = k / fw := ⟨_, rfl⟩
      obtain ⟨M, hM⟩ : ∃ M, M = k % fw := ⟨_, rfl⟩
      have hYh : Y < fh := by
        rw [hY]
        refine Nat.div_lt_of_lt_mul ?_
        rw [← HF0.out]
        exact hlt
      have hMw : M < fw := by rw [hM]; exact Nat.mod_lt _ (by omega)
      have q1 : (k : Int) / (fw : Int) = (Y : Int) := by rw [hY]; simp
      have q2 : Int.tdiv (k : Int) (fw : Int) = (Y : Int) := by rw [Int.tdiv_eq_ediv_of_nonneg (by omega), q1]
      have q3 : (k : Int) % (fw : Int) = (M : Int) := by rw [hM]; simp
      have q4 : Int.tmod (k : Int) (fw : Int) = (M : Int) := by rw [Int.tmod_eq_emod_of_nonneg (by omega), q3]
      have q5 : ((fw : Int) == 0) = false := beq_eq_false_iff_ne.2 (by omega)
      have q6 : IntKind.i64.wrap (Y : Int) = (Y : Int) := IntWalk.i64_in _ (by omega)
      have HY := Lib.hid hY
      have HM := Lib.hid hM
      clear hY hM
      go_upto_region 33 with fail
      go_quiet (fail)
      have hid9 : Below wr.heap.size wr (wr.drewN nq) := below_drewN (Below.refl _ _) nq
      have HBX9 : Hid ((wr.drewN nq).heap[rb]? = some (.cells #[.int .i64 (W : Nat), .int .i64 (H : Nat), .slice A' n4 cap'] 26 (0, 0))) := Lib.hid HBX.out
      have HOX9 := Lib.hid (HOX.out.below hid9)
      have HXr9 := Lib.hid (below_drewN HXr.out nq)
      have HRr9 : Hid ((wr.drewN nq).heap[w.heap.size]? = some (.cells #[.int .i64 0, .int .i64 0, .slice none 0 0] 26 (0, 0))) := Lib.hid HRr.out
      have HSr9 := Lib.hid (HSr.out.below hid9)
      have HPr9 := Lib.hid (HPr.out.below hid9)
      have HCr9 := Lib.hid (HCr.out.below hid9)
      have HBr9 := Lib.hid (below_drewN HBr.out nq)
      have hxr9 : xb ≤ (wr.drewN nq).heap.size := hxr
      clear q1 q2 q5 q6 c0 hid9 HBX HOX HXr HRr HSr HPr HCr HBr hxr hb5
      generalize wr.drewN nq = w9 at *
      go_upto_if 183 with fail
      go_cut [30] (fun s30 wx => ∃ Z : Nat, s30 = .int .i64 (Z : Nat) ∧ Z = (if lac = true then gz (rowsG fh) Y else Y) ∧ wx = w9)
      case first =>
        cases hl : lac with
        | true =>
          rw [hl] at f64
          have HL := Lib.hid hl
          clear hl
          obtain ⟨bR, oR, hRe, hbR, hcR⟩ := HSr9.out.cell (by omega)
          have hcy := hcR Y (by omega)
          rw [cellsI_get _ _ (by rw [rowsG_len fh h1fh.1]; exact hYh)] at hcy
          subst hRe
          clear hcR
          go_wp2_with fail
          go_meet
          exact ⟨_, rfl, by rw [HL.out]; simp, rfl⟩
        | false =>
          rw [hl] at f64
          have HL := Lib.hid hl
          clear hl
          go_wp2_with fail
          go_meet
          exact ⟨_, rfl, by rw [HL.out]; simp, rfl⟩
      case rest =>
      obtain ⟨Z, rfl, hZ, rfl⟩ := hcut
      have HZZ := Lib.hid hZ
      clear hZ f64
      by_cases hk : (x : Int) = clear
      · have t5 : ((x : Int) == clear) = true := by rw [beq_iff_eq]; exact hk
        have hE5 := HRR.out
        rw [if_pos hk] at hE5
        have HE5 := Lib.hid hE5
        clear hE5 hk
        go_wp2_with fail
        go_roundw
        case rel => exact ⟨k + 1, ck, hlt, by go_num, HXr9.out, HBX9.out, HOX9.out, HE5⟩
        case measure => simp [intOf]; omega
      have t5 : ((x : Int) == clear) = false := beq_eq_false_iff_ne.2 hk
      have hE5 := HRR.out
      rw [if_neg hk] at hE5
      by_cases hx2 : L2.length ≤ x
      · have t6 : decide (L2.length ≤ x) = true := by simp; omega
        rw [if_pos hx2] at hE5
        have HE5 := Lib.hid hE5
        have l0 := hp_cell (j := 0) HRr9.out rfl
        have l1 := hp_cell (j := 1) HRr9.out rfl
        have l2 := hp_cell (j := 2) HRr9.out rfl
        have lf := hp_froz HRr9.out
        clear hE5 hk
        go_wp2
        refine bodyPost_ret (v := .tuple #[.agg #[.int .i64 0, .int .i64 0, .slice none 0 0], .int .i64 4]) (by rw [results_cell_tmp rfl]; go_simp) rfl ?_
        rw [HE5.out]
        exact ⟨by first | exact HBr9.out | exact HBel.out _ HBr9.out, .inr ⟨by decide, rfl⟩⟩
      have t6 : decide (L2.length ≤ x) = false := by simp; omega
      rw [if_neg hx2] at hE5
      have HE5 := Lib.hid hE5
      clear hE5 hk
      obtain ⟨bL, oL, hLe, hbL, hcL⟩ := HCr9.out.cell (by omega)
      subst hLe
      obtain ⟨P, hP⟩ : ∃ P, L2[x]? = some P := ⟨L2[x], List.getElem?_eq_getElem (by omega)⟩
      have hpp : ∀ j, j < 4 → wc.cell? ⟨bL, oL + (x * 4 + j), none⟩ = (cP P)[j]? := fun j hj => (hcL (x * 4 + j) (by omega)).trans (cellsP_get L2 x P hP j hj)
      have p0 := hpp 0 (by omega)
      have p1 := hpp 1 (by omega)
      have p2 := hpp 2 (by omega)
      have p3 := hpp 3 (by omega)
      simp only [cP, List.getElem?_cons_zero, List.getElem?_cons_succ, ← Nat.add_assoc, Nat.add_zero] at p0 p1 p2 p3
      have hxl : (x : Int) < (L2.length : Int) := by omega
      have HPP := Lib.hid hP
      clear hcL hpp hP
      have k0 := hp_cell (j := 0) HBX9.out rfl
      have k1 := hp_cell (j := 1) HBX9.out rfl
      have k2 := hp_cell (j := 2) HBX9.out rfl
      have z1 : IntKind.i64.wrap ((le : Int) + (M : Int)) = (le : Int) + (M : Int) := IntWalk.i64_in _ (by omega)
      have hZb : Z < fh := by
        rw [HZZ.out]
        split
        · exact rowsG_lt fh _ (gz_mem (by rw [rowsG_len fh h1fh.1]; exact hYh))
        · exact hYh
      have z2 : IntKind.i64.wrap ((tp : Int) + (Z : Int)) = (tp : Int) + (Z : Int) := IntWalk.i64_in _ (by omega)
      go_upto_region 39 with fail
      go_still_tail 13, (by kernel_rfl)
      repeat still_step
      try refine wpStill_nil ?_
      change wpList _ _ _ _ _ wc.drew
      clear p0 p1 p2 p3 k0 k1 k2 z1 z2 hxl
      have hd9 : Below wc.heap.size wc wc.drew := (Below.refl _ _).drew
      have HOd := Lib.hid (HOX9.out.below hd9)
      have HXd := Lib.hid (HXr9.out.trans (hd9.mono hxr9))
      have HBXd : Hid (wc.drew.heap[rb]? = some (.cells #[.int .i64 (W : Nat), .int .i64 (H : Nat), .slice A' n4 cap'] 26 (0, 0))) := Lib.hid HBX9.out
      have hxd : xb ≤ wc.drew.heap.size := hxr9
      have hxd1 : xb + 1 ≤ wc.drew.heap.size := by have := lt_heap HBX9.out; show xb + 1 ≤ wc.heap.size; omega
      clear hd9
      go_wp2_with fail
      refine (setr_any (W : Nat) (H : Nat) A' n4 cap' ck ((le : Int) + (M : Int)) ((tp : Int) + (Z : Int)) P (by unfold In64; omega) (by unfold In64; omega) hn' hc' _ HOd.out).mono ?_
      rintro e w10 ⟨rfl, h1, h2, h3⟩
      have HX10 := Lib.hid (HXd.out.trans ((h1 hxd1).mono (Nat.le_succ _)))
      have HR10 := Lib.hid (h2 rb _ HBXd.out (fun k hn hA => HNE.out k hn hA))
      have hin : inB (W : Nat) (H : Nat) n4 ((le : Int) + (M : Int)) ((tp : Int) + (Z : Int)) = true := by
        have := inB_xy (a := W) (b := H) (n := n4) (x := le + M) (y := tp + Z) (by rw [mayB, decide_eq_true_eq]; exact ⟨HZ.out, by rw [HN4.out, Int.mul_assoc]; simp⟩) (by omega) (by omega)
        rwa [Int.natCast_add, Int.natCast_add] at this
      have hset : setD (W : Nat) (H : Nat) n4 ck ((le : Int) + (M : Int)) ((tp : Int) + (Z : Int)) P = setC ck ((tp + Z) * W + (le + M)) P := by
        unfold setD
        rw [if_pos hin]
        congr 1
      rw [hset] at h3
      have HO10 := Lib.hid h3
      have hE6 := HE5.out
      rw [HPP.out, Option.getD_some, ← HY.out, ← HM.out, ← HZZ.out] at hE6
      have HE6 := Lib.hid hE6
      clear hE6 h1 h2 h3 hin hset
      go_wp2_with fail
      go_roundw
      case rel => exact ⟨k + 1, _, hlt, by go_num, HX10.out, HR10.out, HO10.out, HE6⟩
      case measure => simp [intOf]; omega
    · have HK := Lib.hid (show k = F by omega)
      have k0 := hp_cell (j := 0) HBX.out rfl
      have k1 := hp_cell (j := 1) HBX.out rfl
      have k2 := hp_cell (j := 2) HBX.out rfl
      have r0 := hp_cell (j := 0) HRr.out rfl
      have r1 := hp_cell (j := 1) HRr.out rfl
      have r2 := hp_cell (j := 2) HRr.out rfl
      have rf := hp_froz HRr.out
      go_wp2
      refine bodyPost_ret (v := .tuple #[.agg #[.int .i64 (W : Nat), .int .i64 (H : Nat), .slice A' n4 cap'], .int .i64 0]) (by rw [results_cell_tmp rfl]; go_simp) rfl ?_
      have hrr2 := hrr.out
      rw [HK.out, List.drop_of_length_le (by rw [HVF.out]; exact Nat.le_refl _), drawG] at hrr2
      rw [hrr2]
      refine ⟨((HBr.out.setCell (p := ⟨w.heap.size, 0, none⟩) (by simp) _).setCell (p := ⟨w.heap.size, 1, none⟩) (by simp) _).setCell (p := ⟨w.heap.size, 2, none⟩) (by simp) _, .inl ⟨rfl, A', cap', by rw [← HN4.out]; exact hn', hc', by rw [← HN4.out], ?_⟩⟩
      rw [← HN4.out]
      exact (((HOX.out.set (g := w.heap.size) (by omega) 0 _).set (g := w.heap.size) (by omega) 1 _).set (g := w.heap.size) (by omega) 2 _).le (by omega)
end Go.Proofs.Ytkjlejkcedemlaa

namespace Go.Proofs.Ytkjlejkcedemlaa
set_option maxRecDepth 100000
set_option linter.unusedVariables false
open Go.ChangeShapes Go.WideShapes Go.ChangeAt Go.RowKit

theorem strB_data (m : Nat) (d : Nat → Nat) : (strB m d).data = ((List.range m).map fun i => UInt8.ofNat (d i)).toArray := by
  unfold strB
  apply Array.toList_inj.1
  rw [strOfNums_data, List.map_map]
  simp
theorem u8_ne {a b : Nat} (ha : a < 256) (hb : b < 256) (h : UInt8.ofNat a = UInt8.ofNat b) : a = b := by
  have := congrArg UInt8.toNat h
  simp at this
  omega
/-- Six bytes held against a text of six. -/
theorem strB_six (d : Nat → Nat) (hd : ∀ i, d i < 256) (a0 a1 a2 a3 a4 a5 : Nat) (h0 : a0 < 256) (h1 : a1 < 256) (h2 : a2 < 256) (h3 : a3 < 256) (h4 : a4 < 256) (h5 : a5 < 256) :
    ((strB 6 d).toList == [UInt8.ofNat a0, UInt8.ofNat a1, UInt8.ofNat a2, UInt8.ofNat a3, UInt8.ofNat a4, UInt8.ofNat a5]) = decide (d 0 = a0 ∧ d 1 = a1 ∧ d 2 = a2 ∧ d 3 = a3 ∧ d 4 = a4 ∧ d 5 = a5) := by
  rw [ByteArray.toList_eq, strB_data, show List.range 6 = [0, 1, 2, 3, 4, 5] from rfl]
  simp only [List.map_cons, List.map_nil]
  by_cases h : d 0 = a0 ∧ d 1 = a1 ∧ d 2 = a2 ∧ d 3 = a3 ∧ d 4 = a4 ∧ d 5 = a5
  · obtain ⟨rfl, rfl, rfl, rfl, rfl, rfl⟩ := h
    simp
  · rw [decide_eq_false h, beq_eq_false_iff_ne]
    intro e
    apply h
    simp only [List.cons.injEq, and_true] at e
    obtain ⟨e0, e1, e2, e3, e4, e5⟩ := e
    exact ⟨u8_ne (hd _) h0 e0, u8_ne (hd _) h1 e1, u8_ne (hd _) h2 e2, u8_ne (hd _) h3 e3, u8_ne (hd _) h4 e4, u8_ne (hd _) h5 e5⟩
theorem is87 (d : Nat → Nat) (hd : ∀ i, d i < 256) : ((strB 6 d).toList == [71, 73, 70, 56, 55, 97]) = decide (d 0 = 71 ∧ d 1 = 73 ∧ d 2 = 70 ∧ d 3 = 56 ∧ d 4 = 55 ∧ d 5 = 97) :=
  strB_six d hd 71 73 70 56 55 97 (by omega) (by omega) (by omega) (by omega) (by omega) (by omega)
theorem is89 (d : Nat → Nat) (hd : ∀ i, d i < 256) : ((strB 6 d).toList == [71, 73, 70, 56, 57, 97]) = decide (d 0 = 71 ∧ d 1 = 73 ∧ d 2 = 70 ∧ d 3 = 56 ∧ d 4 = 57 ∧ d 5 = 97) :=
  strB_six d hd 71 73 70 56 57 97 (by omega) (by omega) (by omega) (by omega) (by omega) (by omega)
theorem and1 (x : Nat) (hx : x < 256) : (bits .and .u8 (x : Int) 1 == 1) = decide (x % 2 = 1) := by
  have h := u8_and_nat x 1 hx (by omega)
  rw [show ((1 : Nat) : Int) = 1 from rfl] at h
  rw [h]
  have k : ∀ y : Fin 256, ((((y.val &&& 1 : Nat) : Int)) == 1) = decide (y.val % 2 = 1) := by decide
  exact k ⟨x, hx⟩
theorem unF_used (b : Nat → Nat) (n : Nat) : ∀ (K at_ : Nat) (out : List Nat), (unF b n K at_ out).2.1 ≤ n := by
  intro K
  induction K with
  | zero => intro at_ out; simp [unF]
  | succ K ih =>
    intro at_ out
    rw [unF]
    split
    · simp
    · split
      · show at_ + 1 ≤ n; omega
      · split
        · simp
        · exact ih _ _
theorem un_used (b : Nat → Nat) (n : Nat) : (unV b n).2.1 ≤ n := unF_used b n _ _ _
theorem unF_err (b : Nat → Nat) (n : Nat) : ∀ (K at_ : Nat) (out : List Nat), (unF b n K at_ out).2.2 ≤ 2 := by
  intro K
  induction K with
  | zero => intro at_ out; simp [unF]
  | succ K ih =>
    intro at_ out
    rw [unF]
    split
    · simp
    · split
      · simp
      · split
        · simp
        · exact ih _ _
end Go.Proofs.Ytkjlejkcedemlaa
