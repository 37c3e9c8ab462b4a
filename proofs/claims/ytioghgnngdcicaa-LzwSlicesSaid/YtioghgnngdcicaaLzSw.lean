/- LzwSlices: the walk. -/
import Derived.Test.YtioghgnngdcicaaLzSl
namespace Go.Proofs.Ytioghgnngdcicaa
set_option linter.unusedVariables false
open Go.ChangeShapes Go.WideShapes Go.ChangeAt Go.RowKit

/-- What no step touches. -/
def Fk (B1 B2 B3 : Nat) (x : Nat) : Prop := x < B3 ∧ (x < B1 ∨ B2 ≤ x)
/-- What the loops keep. -/
def SlR (g : Nat) (r : List Nat × Nat) (most : Nat) (F : Nat → Prop) (w0 : World) (k ol : Nat) (en : Bool) (w : World) : Prop := Rdr g r most F k ol en w ∧ Kept F w0 w
theorem SlR.step {g : Nat} {r : List Nat × Nat} {most : Nat} {F : Nat → Prop} {w0 : World} {k ol k' ol' : Nat} {en en' : Bool} {w w' : World} (h : SlR g r most F w0 k ol en w) (h1 : Rdr g r most F k' ol' en' w') (h2 : Kept F w w') : SlR g r most F w0 k' ol' en' w' := ⟨h1, h.2.trans h2⟩
theorem rdr_out2 (g : Nat) (r1 : List Nat) (r2 : Nat) (most : Nat) (F : Nat → Prop) (k ol : Nat) (w : World) (h : Rdr g (r1, r2) most F k ol true w) :
    Calls Try.prog 17 #[.pointer (some ⟨g, 0, none⟩)] w fun e w' => ∃ A' cap', e = .returned (.slice A' r1.length cap') ∧ NewB w.heap.size w' r1.length A' cap' (gz r1) ∧ Below w.heap.size w w' := rdr_out g (r1, r2) most F k ol w h
set_option maxRecDepth 1000000 in
set_option maxHeartbeats 4000000 in
theorem slices_walk (A : Option Addr) (n cap : Nat) (b : Nat → Nat) (hbt : ∀ i, b i < 256) (h1 : n ≤ cap) (h2 : cap ≤ maxLen) (h3 : A = none → cap = 0) (n0 n1 : Int) (hn0 : In64 n0) (hn1 : In64 n1) (Q : Option Addr) (m capq : Nat) (f : Nat → Int) (hf : ∀ i, In64 (f i)) (hq : m ≤ capq) (hqm : capq ≤ maxLen) (w : World) (hP : Byt w A n b) (hQ : Nums w Q m f) :
    Calls Try.prog 4 #[.slice A n cap, .agg #[.int .i64 n0, .int .i64 n1], .slice Q m capq] w fun e w' => e = .returned (.bool true) ∧ Below w.heap.size w w' := by
  unfold maxLen at hqm
  go_enter Try.func4, Try.ntmps4
  go_wp2_with fail
  refine (awake7 _).mono ?_
  rintro e w1 ⟨rfl, hB1⟩
  have hB1' : Below w.heap.size w w1 := ((Below.refl _ w).alloc (Nat.le_refl _) _).trans (hB1.mono (by simp))
  have a0 := (hB1.cell (p := ⟨w.heap.size, 0, none⟩) (by simp)).trans (hp_cell (j := 0) (hp_new0 _ _) rfl)
  have a1 := (hB1.cell (p := ⟨w.heap.size, 1, none⟩) (by simp)).trans (hp_cell (j := 1) (hp_new0 _ _) rfl)
  have hP1 := hP.below hB1'
  have hQ1 := hQ.below hB1'
  have HB1 := Lib.hid hB1'
  have HN0 := Lib.hid hn0
  have HN1 := Lib.hid hn1
  clear hB1 hB1' hn0 hn1 hP hQ
  by_cases c1 : 2000 < n
  · have d1 : decide (2000 < n) = true := by simp; omega
    go_wp2
    go_ret
    exact ⟨rfl, HB1.out⟩
  have d1 : decide (2000 < n) = false := by simp; omega
  by_cases c2 : 16384 < n1
  · have d2 : decide (16384 < n1) = true := by simp; omega
    go_wp2
    go_ret
    exact ⟨rfl, HB1.out⟩
  have d2 : decide (16384 < n1) = false := by simp; omega
  by_cases c3 : 100 < m
  · have d3 : decide (100 < m) = true := by simp; omega
    go_wp2
    go_ret
    exact ⟨rfl, HB1.out⟩
  have d3 : decide (100 < m) = false := by simp; omega
  go_wp2_with fail
  refine (rdr_new A n cap b hbt h1 h2 h3 (by omega) n0 n1 (by omega) _ hP1).mono ?_
  rintro e w2 ⟨g, k, ol, en, rfl, hR, hB2, hol⟩
  have b0 := (hB2.cell (lt_of_cell a0)).trans a0
  have b1 := (hB2.cell (lt_of_cell a1)).trans a1
  have hP2 := hP1.below hB2
  have HR := Lib.hid hR
  have HOL := Lib.hid hol
  have HB2 := Lib.hid hB2
  clear hR hol hB2 a0 a1 hP1
  go_wp2_with fail
  refine (read_ref A n cap b hbt h1 h2 h3 (by omega) n0 n1 (by omega) _ hP2).mono ?_
  obtain ⟨r, hr⟩ : ∃ r, r = lzwV b n n0 n1 := ⟨_, rfl⟩
  rw [← hr] at HR ⊢
  clear hr
  rintro e w3 ⟨A3, cap3, rfl, hN3, hB3⟩
  obtain ⟨F, hF⟩ : ∃ F, F = Fk w1.heap.size w2.heap.size w3.heap.size := ⟨_, rfl⟩
  have f1 : ∀ x, F x → x < w3.heap.size := fun x hx => by rw [hF] at hx; exact hx.1
  have s12 := HB2.out.size
  have s23 := hB3.size
  have f2 : ∀ x, x < w1.heap.size → F x := fun x hx => by rw [hF]; exact ⟨by omega, .inl hx⟩
  have f3 : ∀ a, A3 = some a → F a.block := fun a ha => by rw [hF]; exact ⟨hN3.lt a ha, .inr (hN3.far a ha)⟩
  have H0 : Hid (SlR g r n1.toNat F w3 k ol en w3) := Lib.hid ⟨(HR.out.more.below hB3).less (fun x hx => by rw [hF] at hx; exact hx.2), Kept.refl _ _⟩
  have HF1 := Lib.hid f1
  have HF3 := Lib.hid f3
  have HBK : Hid (∀ wr, Kept F w3 wr → Below w1.heap.size w1 wr) := Lib.hid fun wr hk => (HB2.out.trans (hB3.mono s12)).trans (hk.below f2 (by omega))
  have HN3 := Lib.hid hN3
  have hmo : n1.toNat ≤ 16384 := by omega
  obtain ⟨most, hmost⟩ : ∃ most, most = n1.toNat := ⟨_, rfl⟩
  rw [← hmost] at H0 hmo
  have HQ1 := Lib.hid (show ∀ wr, Kept F w3 wr → Nums wr Q m f from fun wr hk => hQ1.below (HBK.out wr hk))
  clear hN3 hB3 hP2 hQ1 HR HB2 b0 b1 hmost hF f1 f2 f3 s12 s23
  go_wp2_with fail
  go_loopw [10] (fun s10 wr => ∃ i k ol en, i ≤ m ∧ s10 = .int .i64 (i : Nat) ∧ SlR g r most F w3 k ol en wr) (fun s10 _ => m - (intOf s10).toNat)
  case atStart => exact ⟨0, k, ol, en, by omega, rfl, H0.out⟩
  case round =>
    clear HOL H0
    obtain ⟨i, k, ol, en, him, rfl, hS⟩ := hrel
    have h9 := hS.1.c9
    have HS := Lib.hid hS
    clear hS
    by_cases hlt : i < m
    · have t1 : decide (i < m) = true := by simp; omega
      obtain ⟨bk, off, hQe, hbk, hc⟩ := HQ1.out _ HS.out.2 (by omega)
      have hci := hc i hlt
      have hfi := hf i
      unfold In64 at hfi
      obtain ⟨N, hN⟩ : ∃ N, N = f i := ⟨_, rfl⟩
      rw [← hN] at hci hfi
      have HNN := Lib.hid hN
      have HCC := Lib.hid hc
      clear hN hc
      go_wp2_with fail
      refine (done_r g en _ h9).mono ?_
      rintro e w4 ⟨rfl, rfl⟩
      subst hQe
      go_wp2_with fail
      refine (rdr_step g r most F k ol en N _ (fun x hx => Nat.lt_of_lt_of_le (HF1.out x hx) HS.out.2.size) HS.out.1).mono ?_
      rintro e w5 ⟨k', ol', en', rfl, hR', hK5, q1, q2, q3⟩
      have g9 := hR'.c9
      have g10 := hR'.c10
      have HS5 := Lib.hid (HS.out.step hR' hK5)
      obtain ⟨bk', off', hQe', hbk', hc'⟩ := HQ1.out _ HS5.out.2 (by omega)
      have hci' := hc' i hlt
      rw [← HNN.out] at hci'
      injection hQe' with hQe'
      injection hQe' with e1 e2
      subst e1 e2
      clear HNN HCC hc' hR' hK5 q3 hbk hbk' hci
      by_cases hN1 : N < 1
      · have t2 : decide (N < 1) = true := by simp; omega
        obtain rfl := q2 hN1
        clear q1 q2
        cases en' with
        | true =>
          go_wp2_with (first | (go_at_call 15; refine (done_r g true _ g9).mono ?_; rintro e w6 ⟨rfl, rfl⟩))
          go_roundw
          case rel => exact ⟨i + 1, k', ol', true, by omega, by go_num, HS5.out⟩
          case measure => simp [intOf]; omega
        | false =>
          go_wp2_with (first | (go_at_call 15; refine (done_r g false _ g9).mono ?_; rintro e w6 ⟨rfl, rfl⟩) | (go_at_call 17; refine (out_no g _ g9).mono ?_; rintro e w6 ⟨rfl, rfl⟩) | (go_at_call 18; refine (err_r g 0 _ g10).mono ?_; rintro e w6 ⟨rfl, rfl⟩))
          go_roundw
          case rel => exact ⟨i + 1, k', ol', false, by omega, by go_num, HS5.out⟩
          case measure => simp [intOf]; omega
      · have t2 : decide (N < 1) = false := by simp; omega
        clear q2
        cases en' with
        | true =>
          cases en with
          | true =>
            go_wp2_with (first | (go_at_call 15; refine (done_r g true _ g9).mono ?_; rintro e w6 ⟨rfl, rfl⟩))
            go_roundw
            case rel => exact ⟨i + 1, k', ol', true, by omega, by go_num, HS5.out⟩
            case measure => simp [intOf]; omega
          | false =>
            go_wp2_with (first | (go_at_call 15; refine (done_r g true _ g9).mono ?_; rintro e w6 ⟨rfl, rfl⟩))
            go_roundw
            case rel => exact ⟨i + 1, k', ol', true, by omega, by go_num, HS5.out⟩
            case measure => simp [intOf]; omega
        | false =>
          cases en with
          | true => cases q1 rfl
          | false =>
            go_wp2_with (first | (go_at_call 15; refine (done_r g false _ g9).mono ?_; rintro e w6 ⟨rfl, rfl⟩) | (go_at_call 17; refine (out_no g _ g9).mono ?_; rintro e w6 ⟨rfl, rfl⟩) | (go_at_call 18; refine (err_r g 0 _ g10).mono ?_; rintro e w6 ⟨rfl, rfl⟩))
            go_roundw
            case rel => exact ⟨i + 1, k', ol', false, by omega, by go_num, HS5.out⟩
            case measure => simp [intOf]; omega
    · obtain rfl : i = m := by omega
      have H0 : Hid (∃ en, SlR g r most F w3 k ol en wr) := Lib.hid ⟨en, HS.out⟩
      go_wp2_with fail
      go_loopw [13] (fun s13 wr => ∃ j k ol en, j ≤ 16385 ∧ s13 = .int .i64 (j : Nat) ∧ SlR g r most F w3 k ol en wr ∧ (en = false → j ≤ ol)) (fun s13 _ => 16385 - (intOf s13).toNat)
      case atStart => exact ⟨0, k, ol, en, by omega, rfl, HS.out, fun _ => by omega⟩
      case round =>
        clear H0 HS h9
        obtain ⟨j, k, ol, en, hj, rfl, hS, hjo⟩ := hrel
        have h9 := hS.1.c9
        have h10 := hS.1.c10
        have HS := Lib.hid hS
        clear hS
        have t1 : decide ((j : Int) < 32768) = true := by simp; omega
        have t2 : decide (j < 32768) = true := by simp; omega
        cases en with
        | false =>
          have hjo2 := hjo rfl
          have hb := HS.out.1.bound
          clear hjo
          have hm7 : (0 : Int) ≤ (j : Int) % 7 ∧ (j : Int) % 7 < 7 := by omega
          go_wp2_with fail
          refine (done_r g false _ h9).mono ?_
          rintro e w4 ⟨rfl, rfl⟩
          go_wp2_with fail
          refine (rdr_step g r most F k ol false _ _ (fun x hx => Nat.lt_of_lt_of_le (HF1.out x hx) HS.out.2.size) HS.out.1).mono ?_
          rintro e w5 ⟨k', ol', en', rfl, hR', hK5, q1, q2, q3⟩
          have HS5 := Lib.hid (HS.out.step hR' hK5)
          have HQ := Lib.hid q3
          clear hR' hK5 q1 q2 q3 h9 h10
          go_wp2_with fail
          go_roundw
          case rel => exact ⟨j + 1, k', ol', en', by omega, by go_num, HS5.out, fun he => by have := HQ.out (by omega) he; omega⟩
          case measure => simp [intOf]; omega
        | true =>
          clear hjo
          simp only [if_true] at h10
          have HY : Hid (Byt wr A3 r.1.length (gz r.1)) := Lib.hid (HN3.out.byt.kept HS.out.2 HF3.out)
          obtain ⟨r1, r2⟩ := r
          dsimp only at *
          go_wp2_with fail
          refine (done_r g true _ h9).mono ?_
          rintro e w4 ⟨rfl, rfl⟩
          have D1 := Lib.hid (show ∀ W, Below wr.heap.size wr W → W.cell? ⟨g, 9, none⟩ = some (.bool true) from fun W hW => (hW.cell (lt_of_cell h9)).trans h9)
          have D3 := Lib.hid (show ∀ W, Below wr.heap.size wr W → W.cell? ⟨g, 10, none⟩ = some (.int .i64 (r2 : Nat)) from fun W hW => (hW.cell (lt_of_cell h10)).trans h10)
          have D2 := Lib.hid (show ∀ W, Below wr.heap.size wr W → Rdr g (r1, r2) most F k ol true W from fun W hW => HS.out.1.below hW)
          have D4 := Lib.hid (show ∀ W, Below wr.heap.size wr W → (convert 22 9 (.slice A3 r1.length cap3)).run Try.prog W = .ok (.string (strB r1.length (gz r1))) W from fun W hW => run_str (cap := cap3) (HY.out.below hW))
          have kd : Below wr.heap.size wr wr.drew := (Below.refl _ _).drew
          have kd4 := D4.out _ kd
          have g3 := ba_beq (strB r1.length (gz r1))
          have HBW := Lib.hid (HBK.out wr HS.out.2)
          clear h9 h10 HS HY
          go_upto_region 20 with fail
          go_region_with
            (first
              | (go_at_call 15; refine (done_r g true _ (D1.out _ (by first | with_reducible exact kd | with_reducible assumption))).mono ?_; rintro e w6 ⟨rfl, rfl⟩)
              | (go_at_call 17; refine (rdr_out2 g r1 r2 most F k ol _ (D2.out _ (by first | with_reducible exact kd | with_reducible assumption))).mono ?_; rintro e w7 ⟨A5, cap5, rfl, hN5, hB5⟩; have e5 := run_str (cap := cap5) hN5.byt; have kd7 : Below wr.heap.size wr w7 := kd.trans (hB5.mono kd.size); have kd47 := D4.out _ kd7)
              | (go_at_call 18; refine (err_r g (r2 : Nat) _ (D3.out _ (by first | with_reducible exact kd | with_reducible assumption))).mono ?_; rintro e w8 ⟨rfl, rfl⟩)
              | fail)
          all_goals
            go_wp2
            go_ret
            exact ⟨rfl, HB1.out.trans ((HBW.out.trans (kd7.mono HBW.out.size)).mono HB1.out.size)⟩
end Go.Proofs.Ytioghgnngdcicaa
