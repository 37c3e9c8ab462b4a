/- BmpwriteBack: the walk. -/
import Derived.Test.YthgafdbdmemkhaaDoorM21

namespace Go.Proofs.YthgafdbdmemkhaaDoor
set_option maxRecDepth 100000
set_option linter.unusedVariables false
open Go.ChangeShapes Go.WideShapes Go.ChangeAt Go.RowKit

/-- Bytes that lie there, to be read. -/
structure ByW (w : World) (n : Nat) (A : Option Addr) (cap : Nat) (d : Nat → Nat) : Prop where
  le : n ≤ cap
  max : cap ≤ maxLen
  byt : Byt w A n d
  lt : ∀ a, A = some a → a.block < w.heap.size
theorem ByW.below {w w' : World} {n cap : Nat} {A : Option Addr} {d : Nat → Nat} (h : ByW w n A cap d) (hb : Below w.heap.size w w') : ByW w' n A cap d :=
  ⟨h.le, h.max, h.byt.below hb, fun a ha => Nat.lt_of_lt_of_le (h.lt a ha) hb.size⟩
/-- A picture's file. -/
def fileB (c : Nat → Nat) (W H : Nat) : List Nat := fileL (!opqB (W * H) c) c W H
theorem picB {a b : Int} {n : Nat} {c : Nat → Nat} (h : fitsB a b n c 3 = true) : ∃ W H : Nat, a = (W : Int) ∧ b = (H : Int) ∧ n = 4 * (W * H) ∧ (1 ≤ W ∧ W ≤ 256) ∧ (1 ≤ H ∧ H ≤ 256) ∧ W * H ≤ 16384 ∧ 0 < n := by
  obtain ⟨W, H, N, h1, h2, h3, h4, h5, h6, h7, h8, h9⟩ := pic_nat h
  have h10 : 1 * 1 ≤ W * H := Nat.mul_le_mul h5.1 h6.1
  exact ⟨W, H, h1, h2, by rw [h3, h4], h5, h6, by omega, by omega⟩
theorem picN {W H n : Nat} {c : Nat → Nat} (hn : n = 4 * (W * H)) (h : fitsB (W : Nat) (H : Nat) n c 3 = true) : (1 ≤ W ∧ W ≤ 256) ∧ (1 ≤ H ∧ H ≤ 256) ∧ W * H ≤ 16384 ∧ sizeE (W : Nat) (H : Nat) = 0 ∧ (∀ i, i < 4 * (W * H) → c i % 257 = 0) ∧ mayB (W : Nat) (H : Nat) (4 * (W * H)) = true := by
  obtain ⟨W', H', N, h1, h2, h3, h4, h5, h6, h7, h8, h9⟩ := pic_nat h
  obtain rfl : W = W' := by omega
  obtain rfl : H = H' := by omega
  subst h4
  refine ⟨h5, h6, h7, h8, h9, ?_⟩
  unfold mayB
  exact decide_eq_true ⟨h8, by simp [Int.mul_assoc]⟩
theorem enc_yesB (W H n : Nat) (hn : n = 4 * (W * H)) (hn0 : 0 < n) (A : Option Addr) (cap : Nat) (c : Nat → Nat) (hc : ∀ i, c i < 65536) (hfit : fitsB (W : Nat) (H : Nat) n c 3 = true) (hcap : n ≤ cap) (hmax : cap ≤ maxLen) (w : World) (hP : Pix w A n c) :
    Calls Tryd.prog 5 #[.agg #[.int .i64 (W : Nat), .int .i64 (H : Nat), .slice A n cap]] w fun e w' => ∃ A' cap' m, e = .returned (.tuple #[.slice A' m cap', .int .i64 0]) ∧ m = (fileB c W H).length ∧ m ≤ 9 * W * H + 2048 ∧ ByW w' m A' cap' (gd (fileB c W H)) ∧ Below w.heap.size w w' := by
  obtain ⟨hW, hH, hWH, hz, h257, hm⟩ := picN hn hfit
  subst hn
  refine (enc_ok W H (W * H) A cap c hc hcap hmax hm hfit rfl hW hH hWH h257 w hP).mono ?_
  rintro e w' ⟨gb, cap', rfl, hO, hB⟩
  obtain ⟨q1, q2, q3⟩ := byt_own hO
  refine ⟨_, cap', _, rfl, rfl, ?_, ⟨q1, q2, q3, fun a ha => ?_⟩, hB⟩
  · have h := (file_len_le (!opqB (W * H) c) c W H (W * H) hW hH.2 rfl hWH).1
    rw [Nat.mul_assoc]
    omega
  · cases ha
    exact (hO.lt gb rfl).2
theorem len_B (W H n : Nat) (hn : n = 4 * (W * H)) (c : Nat → Nat) (hfit : fitsB (W : Nat) (H : Nat) n c 3 = true) : (fileB c W H).length = 14 + sizeH (!opqB (W * H) c) + wideH (!opqB (W * H) c) W * H ∧ (fileB c W H).length ≤ 262144 := by
  obtain ⟨hW, hH, hWH, hz, h257, hm⟩ := picN hn hfit
  have h := (file_len_le (!opqB (W * H) c) c W H (W * H) hW hH.2 rfl hWH).1
  exact ⟨fileL_len _ c W H hW.2, by unfold fileB; omega⟩
theorem bmp_backB (W H n m : Nat) (hn : n = 4 * (W * H)) (c : Nat → Nat) (hc : ∀ i, c i < 65536) (hfit : fitsB (W : Nat) (H : Nat) n c 3 = true) (hm : m = (fileB c W H).length) (A : Option Addr) (cap : Nat) (w : World) (hN : ByW w m A cap (gd (fileB c W H))) :
    Calls Tryd.prog 8 #[.slice A m cap] w fun e w' => ∃ A' cap', e = .returned (.tuple #[.agg #[.int .i64 (W : Nat), .int .i64 (H : Nat), .slice A' n cap'], .int .i64 0]) ∧ n ≤ cap' ∧ cap' ≤ maxLen ∧ Pix w' A' n c ∧ Below w.heap.size w w' := by
  obtain ⟨hW, hH, hWH, hz, h257, _⟩ := picN hn hfit
  have hl := len_B W H n hn c hfit
  subst hn hm
  exact bmp_ref (!opqB (W * H) c) A _ cap (gd (fileB c W H)) c W H (W * H) (file_head _ c hc W H hW.2 hH.2) (fun h => by unfold fileB; rw [h]; exact file_mask c W H) rfl hl hN.le hN.max hW hH hz (fun k x hk hx => file_px _ c W H (W * H) hW.2 rfl h257 rfl k x hk hx) w hN.byt
/-- bmpread.Decode of a file that was written. -/
theorem bmpd_back (W H n m : Nat) (hn : n = 4 * (W * H)) (c : Nat → Nat) (hc : ∀ i, c i < 65536) (hfit : fitsB (W : Nat) (H : Nat) n c 3 = true) (hm : m = (fileB c W H).length) (A : Option Addr) (cap : Nat) (w : World) (hN : ByW w m A cap (gd (fileB c W H))) (hT : TabW w) :
    Calls Tryd.prog 9 #[.slice A m cap] w fun e w' => ∃ A' cap', e = .returned (.tuple #[.agg #[.int .i64 (W : Nat), .int .i64 (H : Nat), .slice A' n cap'], .int .i64 0]) ∧ n ≤ cap' ∧ cap' ≤ maxLen ∧ Pix w' A' n c ∧ Below w.heap.size w w' := by
  obtain ⟨hW, hH, hWH, hz, h257, _⟩ := picN hn hfit
  have hl := len_B W H n hn c hfit
  subst hm
  obtain ⟨r1, r2, c', r3, r4⟩ := enc_read (!opqB (W * H) c) c W H (W * H) hc rfl hW hH hWH hz h257 rfl (gd (fileB c W H)) rfl (fileB c W H).length rfl hl.2
  refine (decode_b A _ cap (gd (fileB c W H)) (gd_lt (fileL_lt _ c hc W H)) hN.le hN.max w hN.lt hN.byt hT).mono ?_
  rintro e w' ⟨hB, ⟨_, _, A', cap', n4, h1, h2, h3, rfl, hO⟩ | ⟨h0, _⟩⟩
  · rw [r1, r2] at h1 ⊢
    rw [r3] at hO
    have e4 : n4 = n := by
      rw [hn]
      have h5 : (n4 : Int) = ((4 * (W * H) : Nat) : Int) := by rw [h1]; simp [Int.mul_assoc]
      exact_mod_cast h5
    subst e4
    exact ⟨A', cap', rfl, h2, h3, pix_eq hO.pix (fun j hj => r4 j (by omega)), hB⟩
  · exact absurd (congrArg Prod.snd r3) h0
set_option maxRecDepth 100000 in
set_option maxHeartbeats 4000000 in
theorem bback_walk (a b : Int) (A : Option Addr) (n cap : Nat) (c : Nat → Nat) (hc : ∀ i, c i < 65536) (ha : In64 a) (hb : In64 b) (hn : n ≤ cap) (hmax : cap ≤ maxLen) (hz : A = none → cap = 0) (w : World) (hP : Pix w A n c) (hT : TabW w) :
    Calls Tryd.prog 3 #[.agg #[.int .i64 a, .int .i64 b, .slice A n cap]] w fun e w' => e = .returned (.bool true) ∧ Below w.heap.size w w' := by
  have HB := Lib.hid ((Below.refl _ w).alloc (Nat.le_refl _) (.cells #[.int .i64 a, .int .i64 b, .slice A n cap] 24))
  have HX := Lib.hid (hp_new0 w (.cells #[.int .i64 a, .int .i64 b, .slice A n cap] 24))
  have HP := Lib.hid (hP.below HB.out)
  have HC := Lib.hid hc
  have HTW := Lib.hid hT
  clear hP hc hT
  go_enter Tryd.func3, Tryd.ntmps3
  go_wp2_with fail
  generalize w.alloc (.cells #[.int .i64 a, .int .i64 b, .slice A n cap] 24) = w1 at *
  refine (awake19 _).mono ?_
  rintro e w2 ⟨rfl, hB2⟩
  have HB2 := Lib.hid (HB.out.trans (hB2.mono HB.out.size))
  have HX2 := Lib.hid (hp_below HX.out hB2 (lt_heap HX.out))
  have HP2 := Lib.hid (HP.out.below hB2)
  clear hB2
  have k0 := hp_cell (j := 0) HX2.out rfl
  have k1 := hp_cell (j := 1) HX2.out rfl
  have k2 := hp_cell (j := 2) HX2.out rfl
  by_cases hbig : 9000 < n
  · have hbg : decide ((9000 : Int) < (n : Int)) = true := decide_eq_true (by omega)
    go_wp2_with fail
    go_ret
    exact ⟨rfl, HB2.out⟩
  have hbg : decide ((9000 : Int) < (n : Int)) = false := decide_eq_false (by omega)
  cases hm : mayB a b n with
  | false =>
    go_wp2_with fail
    refine (enc_arg a b A n cap c ha hb hn hmax hm _ HP2.out).mono ?_
    rintro e w3 ⟨rfl, hB3⟩
    have HB3 := Lib.hid (HB2.out.trans (hB3.mono HB2.out.size))
    have HX3 := hp_below HX2.out hB3 (lt_heap HX2.out)
    have HM := Lib.hid hm
    clear hB3 k0 k1 k2 hm
    have k0 := hp_cell (j := 0) HX3 rfl
    have k1 := hp_cell (j := 1) HX3 rfl
    have k2 := hp_cell (j := 2) HX3 rfl
    clear HX3
    go_wp2_with fail
    refine (may_ref a b A n cap ha hb hn hmax _).mono ?_
    rintro e w4 ⟨rfl, hB4⟩
    rw [HM.out]
    have HF := Lib.hid (HB3.out.trans (hB4.mono HB3.out.size))
    clear hB4 k0 k1 k2
    go_wp2_with fail
    go_ret
    exact ⟨rfl, HF.out⟩
  | true =>
  have HM := Lib.hid hm
  cases hf : fitsB a b n c 3 with
  | false =>
    go_wp2_with fail
    refine (enc_depth a b A n cap c HC.out ha hb hn hmax hm hf _ HP2.out).mono ?_
    rintro e w3 ⟨rfl, hB3⟩
    have HF2 := Lib.hid hf
    have HB3 := Lib.hid (HB2.out.trans (hB3.mono HB2.out.size))
    have HX3 := Lib.hid (hp_below HX2.out hB3 (lt_heap HX2.out))
    have HP3 := Lib.hid (HP2.out.below hB3)
    clear hB3 k0 k1 k2 hm hf
    have k0 := hp_cell (j := 0) HX3.out rfl
    have k1 := hp_cell (j := 1) HX3.out rfl
    have k2 := hp_cell (j := 2) HX3.out rfl
    go_wp2_with fail
    refine (may_ref a b A n cap ha hb hn hmax _).mono ?_
    rintro e w4 ⟨rfl, hB4⟩
    rw [HM.out]
    have HB4 := Lib.hid (HB3.out.trans (hB4.mono HB3.out.size))
    have hX4 := hp_below HX3.out hB4 (lt_heap HX3.out)
    have HP4 := Lib.hid (HP3.out.below hB4)
    clear hB4 k0 k1 k2
    have k0 := hp_cell (j := 0) hX4 rfl
    have k1 := hp_cell (j := 1) hX4 rfl
    have k2 := hp_cell (j := 2) hX4 rfl
    clear hX4
    go_wp2_with fail
    refine (fits_ref a b A n cap c 3 HC.out ha hb (by unfold In64; omega) hn hmax _ HP4.out).mono ?_
    rintro e w5 ⟨rfl, hB5⟩
    rw [HF2.out]
    have HF := Lib.hid (HB4.out.trans (hB5.mono HB4.out.size))
    clear hB5 k0 k1 k2
    go_wp2_with fail
    go_ret
    exact ⟨rfl, HF.out⟩
  | true =>
  obtain ⟨W, H, rfl, rfl, hn4, hW, hH, hWH, hn0⟩ := picB hf
  have HF2 := Lib.hid hf
  have HN4 := Lib.hid hn4
  clear hm hf hn4
  go_wp2_with fail
  refine (enc_yesB W H n HN4.out hn0 A cap c HC.out HF2.out hn hmax _ HP2.out).mono ?_
  rintro e w3 ⟨A3, cap3, m, rfl, hm3, hl3, hN3, hB3⟩
  have HB3 := Lib.hid (HB2.out.trans (hB3.mono HB2.out.size))
  have HX3 := Lib.hid (hp_below HX2.out hB3 (lt_heap HX2.out))
  have HP3 := Lib.hid (HP2.out.below hB3)
  have HN3 := Lib.hid hN3
  have HM3 := Lib.hid hm3
  have HL3 := Lib.hid hl3
  clear hB3 k0 k1 k2 hm3 hl3 hN3
  have k0 := hp_cell (j := 0) HX3.out rfl
  have k1 := hp_cell (j := 1) HX3.out rfl
  have k2 := hp_cell (j := 2) HX3.out rfl
  go_wp2_with fail
  refine (may_ref (W : Nat) (H : Nat) A n cap ha hb hn hmax _).mono ?_
  rintro e w4 ⟨rfl, hB4⟩
  rw [HM.out]
  have HB4 := Lib.hid (HB3.out.trans (hB4.mono HB3.out.size))
  have HX4 := Lib.hid (hp_below HX3.out hB4 (lt_heap HX3.out))
  have HP4 := Lib.hid (HP3.out.below hB4)
  have HN4' := Lib.hid (HN3.out.below hB4)
  clear hB4 k0 k1 k2
  have k0 := hp_cell (j := 0) HX4.out rfl
  have k1 := hp_cell (j := 1) HX4.out rfl
  have k2 := hp_cell (j := 2) HX4.out rfl
  go_wp2_with fail
  refine (fits_ref (W : Nat) (H : Nat) A n cap c 3 HC.out ha hb (by unfold In64; omega) hn hmax _ HP4.out).mono ?_
  rintro e w5 ⟨rfl, hB5⟩
  rw [HF2.out]
  have HB5 := Lib.hid (HB4.out.trans (hB5.mono HB4.out.size))
  have HX5 := Lib.hid (hp_below HX4.out hB5 (lt_heap HX4.out))
  have HP5 := Lib.hid (HP4.out.below hB5)
  have HN5 := Lib.hid (HN4'.out.below hB5)
  clear hB5 k0 k1 k2
  go_wp2_with fail
  refine (bmp_backB W H n m HN4.out c HC.out HF2.out HM3.out A3 cap3 w5 HN5.out).mono ?_
  rintro e w6 ⟨A6, cap6, rfl, hn6, hc6, hO6, hB6⟩
  have hal6 : Below w6.heap.size w6 (w6.alloc (.cells #[.int .i64 (W : Nat), .int .i64 (H : Nat), .slice A6 n cap6] 24)) := (Below.refl _ w6).alloc (Nat.le_refl _) _
  have hb7 := hB6.trans (hal6.mono hB6.size)
  have HB7 := Lib.hid (HB5.out.trans (hb7.mono HB5.out.size))
  have HX7 := Lib.hid (hp_below HX5.out hb7 (lt_heap HX5.out))
  have HP7 := Lib.hid (HP5.out.below hb7)
  have HN7 := Lib.hid (HN5.out.below hb7)
  have HQ7 := Lib.hid (hO6.below hal6)
  have HY7 := Lib.hid (hp_new0 w6 (.cells #[.int .i64 (W : Nat), .int .i64 (H : Nat), .slice A6 n cap6] 24))
  clear hB6 hal6 hb7 hO6
  go_wp2_with fail
  generalize w6.alloc (.cells #[.int .i64 (W : Nat), .int .i64 (H : Nat), .slice A6 n cap6] 24) = w7 at *
  obtain ⟨y7, hy7⟩ : ∃ y7, y7 = w6.heap.size := ⟨_, rfl⟩
  rw [← hy7] at HY7 ⊢
  clear hy7
  refine (bmpd_back W H n m HN4.out c HC.out HF2.out HM3.out A3 cap3 w7 HN7.out (HTW.out.below HB7.out)).mono ?_
  rintro e w8 ⟨A8, cap8, rfl, hn8, hc8, hO8, hB8⟩
  have hal8 : Below w8.heap.size w8 (w8.alloc (.cells #[.int .i64 (W : Nat), .int .i64 (H : Nat), .slice A8 n cap8] 24)) := (Below.refl _ w8).alloc (Nat.le_refl _) _
  have hb9 := hB8.trans (hal8.mono hB8.size)
  have HB9 := Lib.hid (HB7.out.trans (hb9.mono HB7.out.size))
  have HX9 := Lib.hid (hp_below HX7.out hb9 (lt_heap HX7.out))
  have HP9 := Lib.hid (HP7.out.below hb9)
  have HN9 := Lib.hid (HN7.out.below hb9)
  have HQ9 := Lib.hid (HQ7.out.below hb9)
  have HY9 := Lib.hid (hp_below HY7.out hb9 (lt_heap HY7.out))
  have HV9 := Lib.hid (hO8.below hal8)
  have HZ9 := Lib.hid (hp_new0 w8 (.cells #[.int .i64 (W : Nat), .int .i64 (H : Nat), .slice A8 n cap8] 24))
  have k0 := hp_cell (j := 0) HX9.out rfl
  have k1 := hp_cell (j := 1) HX9.out rfl
  have k2 := hp_cell (j := 2) HX9.out rfl
  clear hB8 hal8 hb9 hO8
  go_wp2_with fail
  generalize w8.alloc (.cells #[.int .i64 (W : Nat), .int .i64 (H : Nat), .slice A8 n cap8] 24) = w9 at *
  obtain ⟨y9, hy9⟩ : ∃ y9, y9 = w8.heap.size := ⟨_, rfl⟩
  rw [← hy9] at HZ9 ⊢
  clear hy9
  refine (copy_ref (W : Nat) (H : Nat) A n cap c hn hmax hz (by omega) _ HP9.out).mono ?_
  rintro e w10 ⟨⟨A10, cap10, rfl, hn10, hc10, _, hO10⟩, hB10⟩
  have HB10 := Lib.hid (HB9.out.trans (hB10.mono HB9.out.size))
  have HX10 := Lib.hid (hp_below HX9.out hB10 (lt_heap HX9.out))
  have HP10 := Lib.hid (HP9.out.below hB10)
  have HN10 := Lib.hid (HN9.out.below hB10)
  have HQ10 := Lib.hid (HQ9.out.below hB10)
  have HY10 := Lib.hid (hp_below HY9.out hB10 (lt_heap HY9.out))
  have HV10 := Lib.hid (HV9.out.below hB10)
  have HZ10 := Lib.hid (hp_below HZ9.out hB10 (lt_heap HZ9.out))
  have HO10 := Lib.hid hO10.pix
  clear hB10 k0 k1 k2 hO10
  go_wp2_with fail
  refine (enc_yesB W H n HN4.out hn0 A10 cap10 c HC.out HF2.out hn10 hc10 _ HO10.out).mono ?_
  rintro e w11 ⟨A11, cap11, m', rfl, hm11, _, hN11, hB11⟩
  have HMM := Lib.hid (hm11.trans HM3.out.symm)
  have HB11 := Lib.hid (HB10.out.trans (hB11.mono HB10.out.size))
  have HX11 := Lib.hid (hp_below HX10.out hB11 (lt_heap HX10.out))
  have HP11 := Lib.hid (HP10.out.below hB11)
  have HN11 := Lib.hid (HN10.out.below hB11)
  have HQ11 := Lib.hid (HQ10.out.below hB11)
  have HY11 := Lib.hid (hp_below HY10.out hB11 (lt_heap HY10.out))
  have HV11 := Lib.hid (HV10.out.below hB11)
  have HZ11 := Lib.hid (hp_below HZ10.out hB11 (lt_heap HZ10.out))
  rw [HMM.out] at hN11 ⊢
  have HK11 := Lib.hid hN11
  have k0 := hp_cell (j := 0) HX11.out rfl
  have k1 := hp_cell (j := 1) HX11.out rfl
  have k2 := hp_cell (j := 2) HX11.out rfl
  have y0 := hp_cell (j := 0) HY11.out rfl
  have y1 := hp_cell (j := 1) HY11.out rfl
  have y2 := hp_cell (j := 2) HY11.out rfl
  clear hB11 hm11 hN11
  go_wp2_with fail
  refine (same_ref (W : Nat) (H : Nat) A6 n cap6 c (W : Nat) (H : Nat) A n cap c (by unfold In64; omega) (by unfold In64; omega) ha hb hn6 hc6 hn hmax _ HQ11.out HP11.out).mono ?_
  rintro e w12 ⟨rfl, hB12⟩
  rw [same_self19 c HM.out]
  have HB12 := Lib.hid (HB11.out.trans (hB12.mono HB11.out.size))
  have HX12 := Lib.hid (hp_below HX11.out hB12 (lt_heap HX11.out))
  have HP12 := Lib.hid (HP11.out.below hB12)
  have HV12 := Lib.hid (HV11.out.below hB12)
  have HZ12 := Lib.hid (hp_below HZ11.out hB12 (lt_heap HZ11.out))
  have HN12 := Lib.hid (HN11.out.below hB12)
  have HK12 := Lib.hid (HK11.out.below hB12)
  clear hB12 k0 k1 k2 y0 y1 y2
  have k0 := hp_cell (j := 0) HX12.out rfl
  have k1 := hp_cell (j := 1) HX12.out rfl
  have k2 := hp_cell (j := 2) HX12.out rfl
  have z0 := hp_cell (j := 0) HZ12.out rfl
  have z1 := hp_cell (j := 1) HZ12.out rfl
  have z2 := hp_cell (j := 2) HZ12.out rfl
  go_wp2_with fail
  refine (same_ref (W : Nat) (H : Nat) A8 n cap8 c (W : Nat) (H : Nat) A n cap c (by unfold In64; omega) (by unfold In64; omega) ha hb hn8 hc8 hn hmax _ HV12.out HP12.out).mono ?_
  rintro e w13 ⟨rfl, hB13⟩
  rw [same_self19 c HM.out]
  have HB13 := Lib.hid (HB12.out.trans (hB13.mono HB12.out.size))
  have hX13 := hp_below HX12.out hB13 (lt_heap HX12.out)
  have e1 := run_str (cap := cap3) (HN12.out.below hB13).byt
  have e2 := run_str (cap := cap11) (HK12.out.below hB13).byt
  obtain ⟨TT, hTT⟩ : ∃ TT, TT = strB m (gd (fileB c W H)) := ⟨_, rfl⟩
  rw [← hTT] at e1 e2
  clear hB13 k0 k1 k2 z0 z1 z2 hTT
  have k0 := hp_cell (j := 0) hX13 rfl
  have k1 := hp_cell (j := 1) hX13 rfl
  have k2 := hp_cell (j := 2) hX13 rfl
  clear hX13
  obtain ⟨T, hT⟩ : ∃ T, T = 9 * W * H := ⟨_, rfl⟩
  have hTI : (9 : Int) * (W : Int) * (H : Int) = (T : Int) := by rw [hT]; simp
  have hmT : m ≤ T + 2048 := by rw [hT]; exact HL3.out
  have hTb : T ≤ 9 * 16384 := by rw [hT, Nat.mul_assoc]; omega
  have t3 : decide ((m : Int) ≤ (T : Int) + 2048) = true := by simp; omega
  clear hT
  go_wp2_with fail
  go_ret
  exact ⟨rfl, HB13.out⟩
end Go.Proofs.YthgafdbdmemkhaaDoor
