/- BitsEnds: the walk. -/
import Derived.Test.YthcijcdeecmnmaaEnds
namespace Go.Proofs.Ythcijcdeecmnmaa
set_option linter.unusedVariables false
open Go.ChangeShapes Go.WideShapes Go.ChangeAt Go.RowKit

theorem hP7 {w w' : World} {A : Option Addr} {n : Nat} {b : Nat → Nat} (h : Byt w A n b) (hb : Below w.heap.size w w') : Byt w' A n b := h.below hb
theorem turn_step (v i : Nat) (hi : i < 8) (hv : v < 256) : (turnF v i * 2 ^ (8 - i)) ||| (v / 2 ^ i % 2 * 2 ^ (7 - i)) = turnF v (i + 1) * 2 ^ (8 - (i + 1)) := by
  have h2 : v / 2 ^ i % 2 < 2 := Nat.mod_lt _ (by omega)
  have e : 2 ^ (8 - i) = 2 * 2 ^ (7 - i) := by rw [show 8 - i = (7 - i) + 1 by omega, Nat.pow_succ]; omega
  have h3 : v / 2 ^ i % 2 * 2 ^ (7 - i) < 2 ^ (8 - i) := by
    have h4 : v / 2 ^ i % 2 * 2 ^ (7 - i) ≤ 1 * 2 ^ (7 - i) := Nat.mul_le_mul_right _ (by omega)
    have h5 : 0 < 2 ^ (7 - i) := Nat.pow_pos (by omega)
    omega
  rw [nat_join (8 - i) _ _ (by simp) h3, turnF, show 8 - (i + 1) = 7 - i by omega, e, Nat.add_mul, Nat.mul_comm 2 (turnF v i), Nat.mul_assoc]
theorem turn_eq (v i : Nat) (hi : i < 8) (hv : v < 256) : bits BinOp.or IntKind.i64 (((turnF v i : Nat) : Int) * 2 ^ (8 - i)) (wrap64 (bits BinOp.and IntKind.i64 ((v : Int) / 2 ^ i) 1 * 2 ^ (7 - i))) = ((turnF v (i + 1) * 2 ^ (8 - (i + 1)) : Nat) : Int) := by
  have h2 : v / 2 ^ i % 2 < 2 := Nat.mod_lt _ (by omega)
  have e1 : bits BinOp.and IntKind.i64 ((v : Int) / 2 ^ i) 1 = ((v / 2 ^ i % 2 : Nat) : Int) := by
    rw [i64_and1, show (v : Int) / 2 ^ i = ((v / 2 ^ i : Nat) : Int) by simp]
    omega
  have h7 : 2 ^ (7 - i) ≤ 2 ^ 7 := Nat.pow_le_pow_right (by omega) (by omega)
  have h8 : 2 ^ (8 - i) ≤ 2 ^ 8 := Nat.pow_le_pow_right (by omega) (by omega)
  have hb : v / 2 ^ i % 2 * 2 ^ (7 - i) ≤ 1 * 2 ^ (7 - i) := Nat.mul_le_mul_right _ (by omega)
  have ht : turnF v i < 2 ^ i := turnF_lt v i
  have h9 : 2 ^ i ≤ 2 ^ 8 := Nat.pow_le_pow_right (by omega) (by omega)
  have hm : turnF v i * 2 ^ (8 - i) ≤ 256 * 256 := Nat.mul_le_mul (by omega) (by omega)
  rw [e1, show ((v / 2 ^ i % 2 : Nat) : Int) * 2 ^ (7 - i) = ((v / 2 ^ i % 2 * 2 ^ (7 - i) : Nat) : Int) by simp, IntWalk.wrap64_in _ (by omega),
    show ((turnF v i : Nat) : Int) * 2 ^ (8 - i) = ((turnF v i * 2 ^ (8 - i) : Nat) : Int) by simp, i64_or_nat _ _ (by omega) (by omega), turn_step v i hi hv]
theorem got_eq (b : Nat → Nat) (i : Nat) (hi : i < 8) : bits BinOp.or IntKind.i64 (((turnF (b 0) i : Nat) : Int) * 2) ((bitL b i : Nat) : Int) = ((turnF (b 0) (i + 1) : Nat) : Int) := by
  have h1 := turnF_lt (b 0) i
  have h2 := bitL_lt b i
  have h3 : 2 ^ i ≤ 2 ^ 8 := Nat.pow_le_pow_right (by omega) (by omega)
  have e : bitL b i = b 0 / 2 ^ i % 2 := by unfold bitL; rw [show i / 8 = 0 by omega, show i % 8 = i by omega]
  rw [show ((turnF (b 0) i : Nat) : Int) * 2 = ((turnF (b 0) i * 2 : Nat) : Int) by simp, i64_or_nat _ _ (by omega) (by omega), nat_join 1 _ _ (by omega) (by omega), turnF, ← e, Nat.mul_comm]
theorem outH_one (g : Nat) (iv : Value) (at_ : Int) (x : Nat) (fr : Nat) (ob : Option Nat) (w : World) (h : Wr 56 g iv at_ [x] fr ob w) :
    Calls Try.prog 36 #[.pointer (some ⟨g, 0, none⟩)] w fun e w' => ∃ A' cap', e = .returned (.slice A' 1 cap') ∧ (convert 22 9 (.slice A' 1 cap')).run Try.prog w' = .ok (.string (strB 1 (fun _ => x))) w' ∧ Below w.heap.size w w' := by
  refine (outH g iv at_ [x] fr ob (by simp) w h).mono ?_
  rintro e w' ⟨A', cap', he, hN, hB⟩
  have hb1 : Byt w' A' 1 (fun i => ([x][i]?).getD 0) := hN.byt
  have h1 := run_str (cap := cap') hb1
  rw [strB_congr (d' := fun _ => x) (fun i hi => by obtain rfl : i = 0 := by omega
                                                    rfl)] at h1
  exact ⟨A', cap', he, h1, hB⟩
theorem outL_one (g : Nat) (iv : Value) (at_ : Int) (x : Nat) (fr : Nat) (ob : Option Nat) (w : World) (h : Wr 46 g iv at_ [x] fr ob w) :
    Calls Try.prog 31 #[.pointer (some ⟨g, 0, none⟩)] w fun e w' => ∃ A' cap', e = .returned (.slice A' 1 cap') ∧ Below w.heap.size w w' := by
  refine (outL g iv at_ [x] fr ob (by simp) w h).mono ?_
  rintro e w' ⟨A', cap', he, hN, hB⟩
  exact ⟨A', cap', he, hB⟩
theorem elem_u8' : Try.prog.elem 22 = 5 := by kernel_rfl
theorem size_u8' (W : World) : (sizeOf 5).run Try.prog W = .ok 1 W := by kernel_rfl
theorem und_u8' : Try.prog.underlying 22 = some (.slice (Try.prog.elem 22)) := by rw [elem_u8']; exact Try.underlying22
theorem run_sl1 (bk off n cap : Nat) (hk : 1 ≤ cap) (W : World) :
    (Instr.sliceAt 22 (.slice (some ⟨bk, off, none⟩) n cap) none (some (.int .i64 1)) none).run Try.prog W = .ok (.slice (some ⟨bk, off, none⟩) 1 cap) W := by
  rw [run_sliceAt_slice _ _ _ _ _ _ und_u8', run_slice_h W 22 _ n cap und_u8' .i64 1 (by omega) (by omega), elem_u8', size_u8']
  have h0 : ¬cap = 0 := by omega
  simp [Result.andThen, sliced, h0, Addr.add_lit]
set_option maxRecDepth 1000000 in
set_option maxHeartbeats 2000000 in
theorem ends_walk (A0 : Option Addr) (n cap : Nat) (b : Nat → Nat) (hb : ∀ i, b i < 256) (h1 : n ≤ cap) (h2 : cap ≤ maxLen) (h3 : A0 = none → cap = 0) (t : Nat) (ht : t < 256) (w : World) (hP : Byt w A0 n b) :
    Calls Try.prog 7 #[.slice A0 n cap, .int .u8 (t : Nat)] w fun e w' => e = .returned (.bool true) ∧ Below w.heap.size w w' := by
  go_enter Try.func7, Try.ntmps7
  go_wp2_with fail
  refine (awake1 _).mono ?_
  rintro e w1 ⟨rfl, hB1⟩
  have HB := Lib.hid hB1
  have hs1 := hB1.size
  clear hB1
  unfold maxLen at h2
  by_cases c1 : 1000 < n
  · have t1 : decide ((1000 : Int) < (n : Int)) = true := by simp; omega
    go_wp2
    go_ret
    exact ⟨rfl, HB.out⟩
  have t1 : decide ((1000 : Int) < (n : Int)) = false := by simp; omega
  by_cases c2 : n < 3
  · have t2 : decide ((n : Int) < 3) = true := by simp; omega
    go_wp2
    go_ret
    exact ⟨rfl, HB.out⟩
  have t2 : decide ((n : Int) < 3) = false := by simp; omega
  go_wp2_with fail
  refine (newL A0 n cap b h1 (by unfold maxLen; omega) h3 (by omega) _ (hP.below HB.out)).mono ?_
  rintro e w2 ⟨g1, A1, d1, rfl, hg1, hR1, hA1, hB2⟩
  have HB2 := Lib.hid (HB.out.trans (hB2.mono HB.out.size))
  have hs2 := hB2.size
  have l1 := lt_heap hR1.box
  go_wp2_with fail
  refine (newH A0 n cap b h1 (by unfold maxLen; omega) h3 (by omega) _ (hP.below HB2.out)).mono ?_
  rintro e w3 ⟨g2, A2, d2, rfl, hg2, hR2, hA2, hB3⟩
  have HB3 := Lib.hid (HB2.out.trans (hB3.mono HB2.out.size))
  have hs3 := hB3.size
  have l2 := lt_heap hR2.box
  have hR1b := hR1.chg (Chg.of_below (S := []) hB3) (by simp) (fun _ _ _ => by simp)
  go_wp2_with fail
  refine (newL A0 n cap b h1 (by unfold maxLen; omega) h3 (by omega) _ (hP.below HB3.out)).mono ?_
  rintro e w4 ⟨g3, A3, d3, rfl, hg3, hR3, hA3, hB4⟩
  have HB4 := Lib.hid (HB3.out.trans (hB4.mono HB3.out.size))
  have hs4 := hB4.size
  have l3 := lt_heap hR3.box
  have hR1c := Lib.hid (hR1b.chg (Chg.of_below (S := []) hB4) (by simp) (fun _ _ _ => by simp))
  have hR2c := hR2.chg (Chg.of_below (S := []) hB4) (by simp) (fun _ _ _ => by simp)
  have HP := Lib.hid hP
  clear hR1 hR1b hR2 hB2 hB3 hB4 hP HB HB2 HB3
  obtain ⟨k, hk⟩ : ∃ k : Nat, k = t % 24 := ⟨_, rfl⟩
  have hkI : (t : Int) % 24 = (k : Int) := by omega
  have hk24 : k < 24 := by omega
  clear hk
  have h64 : askB ((k + 1 : Nat) : Int) (8 * n - 0) = true := by unfold askB; apply decide_eq_true; omega
  go_wp2_with fail
  rw [show (1 : Int) + (k : Int) = ((k + 1 : Nat) : Int) by omega]
  refine (takeL_yes g1 A1 n d1 b 0 _ 0 (by omega) (by omega) hb (k + 1) h64 _ hR1c.out).mono ?_
  rintro e w5 ⟨rfl, hC5, _⟩
  have HB5 := Lib.hid (HB4.out.trans (hC5.below (B := w.heap.size) (by have := HB4.out.size; omega) (by simp; omega)))
  have hR2d := Lib.hid (hR2c.chg hC5 (by simp; omega) (fun _ a ha => by have := hA2 a ha; simp; omega))
  have hR3d := hR3.chg hC5 (by simp; omega) (fun _ a ha => by have := hA3 a ha; simp; omega)
  have hs5 := hC5.size
  have hw4 := HB4.out.size
  clear hC5 hR2c hR3 hR1c HB4
  go_wp2_with fail
  go_loopw [10, 11] (fun y c wr => ∃ i : Nat, i ≤ k + 1 ∧ c = .int .i64 i ∧ y = .int .i64 (takeL b 0 i : Nat) ∧ Chg [g3] w5 wr ∧ Rd 46 g3 A3 n d3 b i (.slice none 0 0) 0 wr) (fun _ c _ => k + 1 - (intOf c).toNat)
  case atStart => exact ⟨0, by omega, rfl, rfl, Chg.refl _ _, hR3d⟩
  case round =>
    obtain ⟨i, hi, rfl, rfl, hC, hR⟩ := hrel
    by_cases hlt : i < k + 1
    · have ha1 : askB ((1 : Nat) : Int) (8 * n - i) = true := by unfold askB; apply decide_eq_true; omega
      go_wp2_with fail
      refine (takeL_yes g3 A3 n d3 b i _ 0 (by omega) (by omega) hb 1 ha1 _ hR).mono ?_
      rintro e w6 ⟨rfl, hC6, hR6⟩
      rw [takeL_one]
      have hor := orL_eq b 0 i (by omega)
      rw [Nat.zero_add] at hor
      have HOR := Lib.hid hor
      have HC6 := Lib.hid (hC.trans hC6)
      have HR6 := Lib.hid hR6
      clear hC hR hC6 hR6 hor
      go_wp2_with fail
      go_roundw
      case rel => exact ⟨i + 1, hlt, by go_num, val_i HOR.out, HC6.out, HR6.out⟩
      case measure => simp [intOf]; omega
    · obtain rfl : i = k + 1 := by omega
      have hR2e := hR2d.out.chg hC (by simp; omega) (fun _ a ha => by have := hA2 a ha; simp; omega)
      have HB6 := Lib.hid (HB5.out.trans (hC.below (B := w.heap.size) (by omega) (by simp; omega)))
      have hs6 := hC.size
      clear hC hR HB5 hR3d
      have ha8 : askB ((8 : Nat) : Int) (8 * n - 0) = true := by unfold askB; apply decide_eq_true; omega
      go_wp2_with fail
      refine (takeH_yes g2 A2 n d2 b 0 _ 0 (by omega) (by omega) hb 8 ha8 _ hR2e).mono ?_
      rintro e w7 ⟨rfl, hC7, _⟩
      rw [takeH_byte b (hb 0)]
      have HB7 := Lib.hid (HB6.out.trans (hC7.below (B := w.heap.size) (by omega) (by simp; omega)))
      clear hC7 hR2e HB6 hR2d
      go_wp2_with fail
      have hw7 := HB7.out.size
      obtain ⟨bk, off, rfl, hbk, hbc⟩ := (hP7 HP.out HB7.out) (by omega)
      have HP' := HP
      have hb00 : w7.cell? ⟨bk, off, none⟩ = some (.int .u8 (b 0 : Nat)) := hbc 0 (by omega)
      have hv8 := hb 0
      go_loopw [13, 14] (fun y c wr => ∃ i : Nat, i ≤ 8 ∧ c = .int .i64 i ∧ y = .int .i64 (turnF (b 0) i * 2 ^ (8 - i) : Nat) ∧ wr = w7) (fun _ c _ => 8 - (intOf c).toNat)
      case atStart => exact ⟨0, by omega, rfl, by simp [turnF], rfl⟩
      case round =>
        obtain ⟨i, hi, rfl, rfl, rfl⟩ := hrel
        by_cases hlt : i < 8
        · have hst := turn_step (b 0) i hlt (hb 0)
          have hi7 : (7 : Int) - (i : Int) = ((7 - i : Nat) : Int) := by omega
          have HST := Lib.hid hst
          clear hst
          go_wp2_with fail
          go_roundw
          case rel => exact ⟨i + 1, hlt, by go_num, val_i (turn_eq (b 0) i hlt hv8), trivial⟩
          case measure => simp [intOf]; omega
        · obtain rfl : i = 8 := by omega
          rw [show turnF (b 0) 8 * 2 ^ (8 - 8) = turnF (b 0) 8 by simp]
          have hT : turnF (b 0) 8 < 256 := turnF_lt (b 0) 8
          obtain ⟨T, hTe⟩ : ∃ T, T = turnF (b 0) 8 := ⟨_, rfl⟩
          rw [← hTe] at hT ⊢
          have HTe := Lib.hid hTe
          obtain ⟨v, hve⟩ : ∃ v, v = b 0 := ⟨_, rfl⟩
          have HV := Lib.hid hve
          clear hTe hve
          go_wp2_with fail
          refine (newH none 0 0 b (by omega) (by simp [maxLen]) (fun _ => rfl) (by omega) _ (fun h => absurd h (by omega))).mono ?_
          rintro e w8 ⟨g5, A5, d5, rfl, hg5, hR5, hA5, hB8⟩
          have HB8 := Lib.hid (HB7.out.trans (hB8.mono HB7.out.size))
          have hs8 := hB8.size
          have l5 := lt_heap hR5.box
          have hW5a := Wr.of_new hR5
          clear hB8 hR5
          go_wp2_with fail
          refine (putH g5 _ 0 [] 0 none (by simp) (b 0 : Nat) (by unfold In64; omega) 8 (by omega) _ hW5a).mono ?_
          rintro e w9 ⟨rfl, hC9, ob5, hW5, hN5⟩
          rw [putsH_byte (b 0) (hb 0)] at hW5
          simp only at hW5
          have HB9 := Lib.hid (HB8.out.trans (hC9.below (B := w.heap.size) (by omega) (by simp [Near]; omega)))
          have hs9 := hC9.size
          have ho5 : ∀ q, ob5 = some q → q < w9.heap.size := fun q hq => by
            obtain ⟨vo, _, hown, he⟩ := hW5.row
            exact (hown.lt q (he.trans hq)).2
          clear hC9 hW5a hN5 HB8
          go_wp2_with fail
          refine (newL none 0 0 b (by omega) (by simp [maxLen]) (fun _ => rfl) (by omega) _ (fun h => absurd h (by omega))).mono ?_
          rintro e w10 ⟨g6, A6, d6, rfl, hg6, hR6, hA6, hB10⟩
          have HB10 := Lib.hid (HB9.out.trans (hB10.mono HB9.out.size))
          have hs10 := hB10.size
          have hW5b := hW5.chg (Chg.of_below (S := []) hB10) (by simp) (fun _ _ => by simp)
          have hW6a := Wr.of_new hR6
          have l6 := lt_heap hR6.box
          clear hB10 hR6 hW5 HB9
          go_wp2_with fail
          refine (putL g6 _ 0 [] 0 none (by simp) (T : Nat) (by unfold In64; omega) 8 (by omega) _ hW6a).mono ?_
          rintro e w11 ⟨rfl, hC11, ob6, hW6, hN6⟩
          rw [putsL_byte T hT] at hW6
          simp only at hW6
          have HB11 := Lib.hid (HB10.out.trans (hC11.below (B := w.heap.size) (by omega) (by simp [Near]; omega)))
          have hs11 := hC11.size
          have hW5c := hW5b.chg hC11 (by simp [Near]; omega) (fun q hq => by have := ho5 q hq; simp [Near]; omega)
          clear hC11 hW6a hN6 HB10 hW5b
          go_wp2_with fail
          refine (newL (some ⟨bk, off, none⟩) n cap b h1 (by unfold maxLen; omega) (fun h => by cases h) (by omega) _ (HP'.out.below HB11.out)).mono ?_
          rintro e w12 ⟨g7, A7, d7, rfl, hg7, hR7, hA7, hB12⟩
          have HB12 := Lib.hid (HB11.out.trans (hB12.mono HB11.out.size))
          have hs12 := hB12.size
          have hW5d := Lib.hid (hW5c.chg (Chg.of_below (S := []) hB12) (by simp) (fun _ _ => by simp))
          have hW6d := Lib.hid (hW6.chg (Chg.of_below (S := []) hB12) (by simp) (fun _ _ => by simp))
          have ho6 : ∀ q, ob6 = some q → q < w11.heap.size := fun q hq => by
            obtain ⟨vo, _, hown, he⟩ := hW6.row
            exact (hown.lt q (he.trans hq)).2
          clear hB12 hW5c hW6 HB11
          go_wp2_with fail
          go_loopw [18, 19] (fun y c wr => ∃ i : Nat, i ≤ 8 ∧ c = .int .i64 i ∧ y = .int .i64 (turnF (b 0) i : Nat) ∧ Chg [g7] w12 wr ∧ Rd 46 g7 A7 n d7 b i (.slice none 0 0) 0 wr) (fun _ c _ => 8 - (intOf c).toNat)
          case atStart => exact ⟨0, by omega, rfl, rfl, Chg.refl _ _, hR7⟩
          case round =>
            obtain ⟨i, hi, rfl, rfl, hC, hR⟩ := hrel
            by_cases hlt : i < 8
            · have ha1 : askB ((1 : Nat) : Int) (8 * n - i) = true := by unfold askB; apply decide_eq_true; omega
              have hx := turnF_lt (b 0) i
              have h2i : 2 ^ i ≤ 2 ^ 8 := Nat.pow_le_pow_right (by omega) (by omega)
              have hx9 : -9223372036854775808 ≤ ((turnF (b 0) i : Nat) : Int) * 2 ∧ ((turnF (b 0) i : Nat) : Int) * 2 ≤ 9223372036854775807 := by omega
              go_wp2_with fail
              refine (takeL_yes g7 A7 n d7 b i _ 0 (by omega) (by omega) hb 1 ha1 _ hR).mono ?_
              rintro e w13 ⟨rfl, hC6, hR6⟩
              rw [takeL_one]
              have HOR := Lib.hid (got_eq b i hlt)
              have HC6 := Lib.hid (hC.trans hC6)
              have HR6 := Lib.hid hR6
              clear hC hR hC6 hR6 hx h2i
              go_wp2_with fail
              go_roundw
              case rel => exact ⟨i + 1, hlt, by go_num, val_i HOR.out, HC6.out, HR6.out⟩
              case measure => simp [intOf]; omega
            · obtain rfl : i = 8 := by omega
              have hs13 := hC.size
              have l7 : g7 < w12.heap.size := lt_heap hR7.box
              have hW5e := hW5d.out.chg hC (by simp; omega) (fun q hq => by have := ho5 q hq; simp; omega)
              have hW6e := hW6d.out.chg hC (by simp; omega) (fun q hq => by have := ho6 q hq; simp; omega)
              have HBE := Lib.hid (HB12.out.trans (hC.below (B := w.heap.size) (by omega) (by simp; omega)))
              obtain ⟨bk', off', he9, hbk9, hbc9⟩ := (hP7 HP'.out HBE.out) (by omega)
              cases he9
              have hb0e : wr.cell? ⟨bk, off, none⟩ = some (.int .u8 (b 0 : Nat)) := hbc9 0 (by omega)
              have hb0d : wr.drew.cell? ⟨bk, off, none⟩ = some (.int .u8 (b 0 : Nat)) := hb0e
              have H5 := Lib.hid (hW5e.chg ((Chg.refl [] wr).drew) (by simp) (fun _ _ => by simp))
              have H6 := Lib.hid (hW6e.chg ((Chg.refl [] wr).drew) (by simp) (fun _ _ => by simp))
              have HBD := Lib.hid (HBE.out.drew)
              have hlb : bk < wr.heap.size := hbk9
              have hcv : ∀ W : World, W.cell? ⟨bk, off, none⟩ = some (.int .u8 (b 0 : Nat)) → (convert 22 9 (.slice (some ⟨bk, off, none⟩) 1 cap)).run Try.prog W = .ok (.string (strB 1 b)) W := fun W h => run_str (fun _ => ⟨bk, off, rfl, lt_of_cell h, fun j hj => by
                obtain rfl : j = 0 := by omega
                exact h⟩)
              have hwz : IntKind.i64.wrap ((b 0 : Nat) : Int) = ((b 0 : Nat) : Int) := IntWalk.i64_in _ (by omega)
              have hsl : ∀ W : World, (Instr.sliceAt 22 (.slice (some ⟨bk, off, none⟩) n cap) none (some (.int .i64 1)) none).run Try.prog W = .ok (.slice (some ⟨bk, off, none⟩) 1 cap) W := fun W => run_sl1 bk off n cap (by omega) W
              have esb : strB 1 b = strB 1 (fun _ => b 0) := strB_congr (fun i hi => by rw [show i = 0 by omega])
              rw [esb] at hcv
              have ess : (strB 1 (fun _ => b 0) == strB 1 (fun _ => b 0)) = true := ba_beq _
              clear esb
              have ecc : (((turnF (b 0) 8 : Nat) : Int) == ((turnF (b 0) 8 : Nat) : Int)) = true := by simp
              rw [HTe.out]
              clear hC hR hW5e hW6e hR7 hW5d hW6d hbc hbc9 hb00
              go_wp2_with fail
              have hn0 : (0 : Int) < (n : Int) := by omega
              have hn1 : 0 < n := by omega
              refine wp_region_held_drew (S := fun w' => w'.cell? ⟨bk, off, none⟩ = some (.int .u8 (b 0 : Nat))) (by kernel_rfl) hb0d (fun hHeld => ?_)
              refine wpAnyH_take (i := 0) (oi := ⟨some 104, _, _, _, _, _⟩) (v := ?v0) rfl (by kernel_rfl) (by kernel_rfl) (by kernel_rfl) (fun _ _ _ h => h) (Or.inl ⟨by rfl, ?y0⟩) hHeld ?r0
              case y0 => ((intro w hSw); (try dsimp only at hSw); go_simp; try with_reducible rfl)
              try simp only [Act.put, List.setIfInBounds_toArray, List.set_cons_zero, List.set_cons_succ]
              refine wpAnyH_take (i := 1) (oi := ⟨some 105, _, _, _, _, _⟩) (v := ?v1) rfl (by kernel_rfl) (by kernel_rfl) (by kernel_rfl) (fun _ _ _ h => h) (Or.inl ⟨by rfl, ?y1⟩) hHeld ?r1
              case y1 => ((intro w hSw); (try dsimp only at hSw); go_simp; try with_reducible rfl)
              try simp only [Act.put, List.setIfInBounds_toArray, List.set_cons_zero, List.set_cons_succ]
              refine wpAnyH_take (i := 2) (oi := ⟨some 106, _, _, _, _, _⟩) (v := ?v2) rfl (by kernel_rfl) (by kernel_rfl) (by kernel_rfl) (fun _ _ _ h => h) (Or.inl ⟨by rfl, ?y2⟩) hHeld ?r2
              case y2 => ((intro w hSw); (try dsimp only at hSw); go_simp; try with_reducible rfl)
              try simp only [Act.put, List.setIfInBounds_toArray, List.set_cons_zero, List.set_cons_succ]
              refine wpAnyH_take (i := 3) (oi := ⟨some 107, _, _, _, _, _⟩) (v := ?v3) rfl (by kernel_rfl) (by kernel_rfl) (by kernel_rfl) (fun _ _ _ h => h) (Or.inl ⟨by rfl, ?y3⟩) hHeld ?r3
              case y3 => ((intro w hSw); (try dsimp only at hSw); go_simp; try with_reducible rfl)
              try simp only [Act.put, List.setIfInBounds_toArray, List.set_cons_zero, List.set_cons_succ]
              refine wpAnyH_take (i := 4) (oi := ⟨some 108, _, _, _, _, _⟩) (v := ?v4) rfl (by kernel_rfl) (by kernel_rfl) (by kernel_rfl) (fun _ _ _ h => h) (Or.inl ⟨by rfl, ?y4⟩) hHeld ?r4
              case y4 => ((intro w hSw); (try dsimp only at hSw); go_simp; try with_reducible rfl)
              try simp only [Act.put, List.setIfInBounds_toArray, List.set_cons_zero, List.set_cons_succ]
              refine wpAnyH_take (i := 5) (oi := ⟨some 109, _, _, _, _, _⟩) (v := ?v5) rfl (by kernel_rfl) (by kernel_rfl) (by kernel_rfl) (fun _ _ _ h => h) (Or.inl ⟨by rfl, ?y5⟩) hHeld ?r5
              case y5 => ((intro w hSw); (try dsimp only at hSw); go_simp; try with_reducible rfl)
              try simp only [Act.put, List.setIfInBounds_toArray, List.set_cons_zero, List.set_cons_succ]
              refine wpAnyH_take (i := 6) (oi := ⟨some 110, _, _, _, _, _⟩) (v := ?v6) rfl (by kernel_rfl) (by kernel_rfl) (by kernel_rfl) (fun _ _ _ h => h) (Or.inl ⟨by rfl, ?y6⟩) hHeld ?r6
              case y6 => ((intro w hSw); (try dsimp only at hSw); go_simp; try with_reducible rfl)
              try simp only [Act.put, List.setIfInBounds_toArray, List.set_cons_zero, List.set_cons_succ]
              refine wpAnyH_take (i := 7) (oi := ⟨some 111, _, _, _, _, _⟩) (v := ?v7) rfl (by kernel_rfl) (by kernel_rfl) (by kernel_rfl) (fun _ _ _ h => h) (Or.inl ⟨by rfl, ?y7⟩) hHeld ?r7
              case y7 => ((intro w hSw); (try dsimp only at hSw); go_simp; try with_reducible rfl)
              try simp only [Act.put, List.setIfInBounds_toArray, List.set_cons_zero, List.set_cons_succ]
              refine wpAnyH_take (i := 8) (oi := ⟨some 112, _, _, _, _, _⟩) (v := ?v8) rfl (by kernel_rfl) (by kernel_rfl) (by kernel_rfl) (fun _ _ _ h => h) (Or.inl ⟨by rfl, ?y8⟩) hHeld ?r8
              case y8 => ((intro w hSw); (try dsimp only at hSw); go_simp; try with_reducible rfl)
              try simp only [Act.put, List.setIfInBounds_toArray, List.set_cons_zero, List.set_cons_succ]
              refine wpAnyH_take (i := 9) (oi := ⟨some 113, _, _, _, _, _⟩) (v := ?v9) rfl (by kernel_rfl) (by kernel_rfl) (by kernel_rfl) (fun _ _ _ h => h) (Or.inl ⟨by rfl, ?y9⟩) hHeld ?r9
              case y9 => ((intro w hSw); (try dsimp only at hSw); go_simp; try with_reducible rfl)
              try simp only [Act.put, List.setIfInBounds_toArray, List.set_cons_zero, List.set_cons_succ]
              refine wpAnyH_take (i := 10) (oi := ⟨some 114, _, _, _, _, _⟩) (v := ?v10) rfl (by kernel_rfl) (by kernel_rfl) (by kernel_rfl) (fun _ _ _ h => h) (Or.inl ⟨by rfl, ?y10⟩) hHeld ?r10
              case y10 => ((intro w hSw); (try dsimp only at hSw); go_simp; try with_reducible rfl)
              try simp only [Act.put, List.setIfInBounds_toArray, List.set_cons_zero, List.set_cons_succ]
              refine wpAnyH_take (i := 11) (oi := ⟨some 115, _, _, _, _, _⟩) (v := ?v11) rfl (by kernel_rfl) (by kernel_rfl) (by kernel_rfl) (fun _ _ _ h => h) (Or.inl ⟨by rfl, ?y11⟩) hHeld ?r11
              case y11 => ((intro w hSw); (try dsimp only at hSw); go_simp; try with_reducible rfl)
              try simp only [Act.put, List.setIfInBounds_toArray, List.set_cons_zero, List.set_cons_succ]
              refine wpAnyH_take (i := 12) (oi := ⟨some 116, _, _, _, _, _⟩) (v := ?v12) rfl (by kernel_rfl) (by kernel_rfl) (by kernel_rfl) (fun _ _ _ h => h) (Or.inl ⟨by rfl, ?y12⟩) hHeld ?r12
              case y12 => ((intro w hSw); (try dsimp only at hSw); go_simp; try with_reducible rfl)
              try simp only [Act.put, List.setIfInBounds_toArray, List.set_cons_zero, List.set_cons_succ]
              refine wpAnyH_take (i := 15) (oi := ⟨some 119, _, _, _, _, _⟩) (v := ?v15) rfl (by kernel_rfl) (by kernel_rfl) (by kernel_rfl) (fun _ _ _ h => h) (Or.inl ⟨by rfl, ?y15⟩) hHeld ?r15
              case y15 => ((intro w hSw); (try dsimp only at hSw); go_simp; try with_reducible rfl)
              try simp only [Act.put, List.setIfInBounds_toArray, List.set_cons_zero, List.set_cons_succ]
              refine wpAnyH_take (i := 16) (oi := ⟨some 120, _, _, _, _, _⟩) (v := ?v16) rfl (by kernel_rfl) (by kernel_rfl) (by kernel_rfl) (fun _ _ _ h => h) (Or.inl ⟨by rfl, ?y16⟩) hHeld ?r16
              case y16 => ((intro w hSw); (try dsimp only at hSw); go_simp; try with_reducible rfl)
              try simp only [Act.put, List.setIfInBounds_toArray, List.set_cons_zero, List.set_cons_succ]
              refine wpAnyH_take (i := 17) (oi := ⟨some 121, _, _, _, _, _⟩) (v := ?v17) rfl (by kernel_rfl) (by kernel_rfl) (by kernel_rfl) (fun _ _ _ h => h) (Or.inl ⟨by rfl, ?y17⟩) hHeld ?r17
              case y17 => ((intro w hSw); (try dsimp only at hSw); go_simp; try with_reducible rfl)
              try simp only [Act.put, List.setIfInBounds_toArray, List.set_cons_zero, List.set_cons_succ]
              refine wpAnyH_ready (rs := [13]) (by kernel_rfl) (by simp) (AllReadyH.cons (o := ⟨some 117, _, _, _, _, _⟩) rfl (fun K hK => ?_) AllReadyH.nil)
              go_simp
              refine (outH_one g5 _ 0 (b 0) 0 ob5 wr.drew H5.out).mono ?_
              rintro e w13 ⟨A8, cap8, rfl, hcv8, hB8⟩
              have hb0f : w13.cell? ⟨bk, off, none⟩ = some (.int .u8 (b 0 : Nat)) := (hB8.cell (p := ⟨bk, off, none⟩) hlb).trans hb0d
              have H6b := H6.out.chg (Chg.of_below (S := []) hB8) (by simp) (fun _ _ => by simp)
              have HB13 := HBD.out.trans (hB8.mono HBD.out.size)
              go_wp2_with fail
              refine hK.out _ _ hb0f (fun hHeld => ?_)
              clear hK K
              try simp only [Act.put, List.setIfInBounds_toArray, List.set_cons_zero, List.set_cons_succ]
              refine wpAnyH_ready (rs := [14]) (by kernel_rfl) (by simp) (AllReadyH.cons (o := ⟨some 118, _, _, _, _, _⟩) rfl (fun K hK => ?_) AllReadyH.nil)
              go_simp
              refine hK.out _ _ hb0f (fun hHeld => ?_)
              clear hK K
              try simp only [Act.put, List.setIfInBounds_toArray, List.set_cons_zero, List.set_cons_succ]
              refine wpAnyH_take (i := 18) (oi := ⟨some 122, _, _, _, _, _⟩) (v := ?v18) rfl (by kernel_rfl) (by kernel_rfl) (by kernel_rfl) (fun _ _ _ h => h) (Or.inl ⟨by rfl, ?y18⟩) hHeld ?r18
              case y18 => ((intro w hSw); (try dsimp only at hSw); go_simp; try with_reducible rfl)
              try simp only [Act.put, List.setIfInBounds_toArray, List.set_cons_zero, List.set_cons_succ]
              refine wpAnyH_take (i := 19) (oi := ⟨some 123, _, _, _, _, _⟩) (v := ?v19) rfl (by kernel_rfl) (by kernel_rfl) (by kernel_rfl) (fun _ _ _ h => h) (Or.inl ⟨by rfl, ?y19⟩) hHeld ?r19
              case y19 => ((intro w hSw); (try dsimp only at hSw); go_simp; try with_reducible rfl)
              try simp only [Act.put, List.setIfInBounds_toArray, List.set_cons_zero, List.set_cons_succ]
              refine wpAnyH_take (i := 20) (oi := ⟨some 124, _, _, _, _, _⟩) (v := ?v20) rfl (by kernel_rfl) (by kernel_rfl) (by kernel_rfl) (fun _ _ _ h => h) (Or.inl ⟨by rfl, ?y20⟩) hHeld ?r20
              case y20 => ((intro w hSw); (try dsimp only at hSw); go_simp; try with_reducible rfl)
              try simp only [Act.put, List.setIfInBounds_toArray, List.set_cons_zero, List.set_cons_succ]
              refine wpAnyH_take (i := 21) (oi := ⟨some 125, _, _, _, _, _⟩) (v := ?v21) rfl (by kernel_rfl) (by kernel_rfl) (by kernel_rfl) (fun _ _ _ h => h) (Or.inl ⟨by rfl, ?y21⟩) hHeld ?r21
              case y21 => ((intro w hSw); (try dsimp only at hSw); go_simp; try with_reducible rfl)
              try simp only [Act.put, List.setIfInBounds_toArray, List.set_cons_zero, List.set_cons_succ]
              refine wpAnyH_ready (rs := [22]) (by kernel_rfl) (by simp) (AllReadyH.cons (o := ⟨some 126, _, _, _, _, _⟩) rfl (fun K hK => ?_) AllReadyH.nil)
              go_simp
              refine (outL_one g6 _ 0 T 0 ob6 w13 H6b).mono ?_
              rintro e w14 ⟨A9, cap9, rfl, hB9⟩
              have hb0g : w14.cell? ⟨bk, off, none⟩ = some (.int .u8 (b 0 : Nat)) := (hB9.cell (p := ⟨bk, off, none⟩) (lt_of_cell hb0f)).trans hb0f
              have HB14 := HB13.trans (hB9.mono HB13.size)
              go_wp2_with fail
              refine hK.out _ _ hb0g (fun hHeld => ?_)
              clear hK K
              try simp only [Act.put, List.setIfInBounds_toArray, List.set_cons_zero, List.set_cons_succ]
              refine wpAnyH_take (i := 23) (oi := ⟨some 127, _, _, _, _, _⟩) (v := ?v23) rfl (by kernel_rfl) (by kernel_rfl) (by kernel_rfl) (fun _ _ _ h => h) (Or.inl ⟨by rfl, ?y23⟩) hHeld ?r23
              case y23 => ((intro w hSw); (try dsimp only at hSw); go_simp; try with_reducible rfl)
              try simp only [Act.put, List.setIfInBounds_toArray, List.set_cons_zero, List.set_cons_succ]
              refine wpAnyH_take (i := 24) (oi := ⟨some 128, _, _, _, _, _⟩) (v := ?v24) rfl (by kernel_rfl) (by kernel_rfl) (by kernel_rfl) (fun _ _ _ h => h) (Or.inl ⟨by rfl, ?y24⟩) hHeld ?r24
              case y24 => ((intro w hSw); (try dsimp only at hSw); go_simp; try with_reducible rfl)
              try simp only [Act.put, List.setIfInBounds_toArray, List.set_cons_zero, List.set_cons_succ]
              refine wpAnyH_take (i := 25) (oi := ⟨some 129, _, _, _, _, _⟩) (v := ?v25) rfl (by kernel_rfl) (by kernel_rfl) (by kernel_rfl) (fun _ _ _ h => h) (Or.inl ⟨by rfl, ?y25⟩) hHeld ?r25
              case y25 => ((intro w hSw); (try dsimp only at hSw); go_simp; try with_reducible rfl)
              try simp only [Act.put, List.setIfInBounds_toArray, List.set_cons_zero, List.set_cons_succ]
              refine wpAnyH_take (i := 26) (oi := ⟨some 130, _, _, _, _, _⟩) (v := ?v26) rfl (by kernel_rfl) (by kernel_rfl) (by kernel_rfl) (fun _ _ _ h => h) (Or.inl ⟨by rfl, ?y26⟩) hHeld ?r26
              case y26 => ((intro w hSw); (try dsimp only at hSw); go_simp; try with_reducible rfl)
              try simp only [Act.put, List.setIfInBounds_toArray, List.set_cons_zero, List.set_cons_succ]
              refine wpAnyH_take (i := 27) (oi := ⟨some 131, _, _, _, _, _⟩) (v := ?v27) rfl (by kernel_rfl) (by kernel_rfl) (by kernel_rfl) (fun _ _ _ h => h) (Or.inl ⟨by rfl, ?y27⟩) hHeld ?r27
              case y27 => ((intro w hSw); (try dsimp only at hSw); go_simp; try with_reducible rfl)
              try simp only [Act.put, List.setIfInBounds_toArray, List.set_cons_zero, List.set_cons_succ]
              refine wpAnyH_take (i := 28) (oi := ⟨some 132, _, _, _, _, _⟩) (v := ?v28) rfl (by kernel_rfl) (by kernel_rfl) (by kernel_rfl) (fun _ _ _ h => h) (Or.inl ⟨by rfl, ?y28⟩) hHeld ?r28
              case y28 => ((intro w hSw); (try dsimp only at hSw); go_simp; try with_reducible rfl)
              try simp only [Act.put, List.setIfInBounds_toArray, List.set_cons_zero, List.set_cons_succ]
              refine wpAnyH_take (i := 29) (oi := ⟨some 133, _, _, _, _, _⟩) (v := ?v29) rfl (by kernel_rfl) (by kernel_rfl) (by kernel_rfl) (fun _ _ _ h => h) (Or.inl ⟨by rfl, ?y29⟩) hHeld ?r29
              case y29 => ((intro w hSw); (try dsimp only at hSw); go_simp; try with_reducible rfl)
              try simp only [Act.put, List.setIfInBounds_toArray, List.set_cons_zero, List.set_cons_succ]
              refine wpAnyH_take (i := 30) (oi := ⟨some 134, _, _, _, _, _⟩) (v := ?v30) rfl (by kernel_rfl) (by kernel_rfl) (by kernel_rfl) (fun _ _ _ h => h) (Or.inl ⟨by rfl, ?y30⟩) hHeld ?r30
              case y30 => ((intro w hSw); (try dsimp only at hSw); go_simp; try with_reducible rfl)
              try simp only [Act.put, List.setIfInBounds_toArray, List.set_cons_zero, List.set_cons_succ]
              refine wpAnyH_take (i := 31) (oi := ⟨some 4, _, _, _, _, _⟩) (v := ?v31) rfl (by kernel_rfl) (by kernel_rfl) (by kernel_rfl) (fun _ _ _ h => h) (Or.inl ⟨by rfl, ?y31⟩) hHeld ?r31
              case y31 => ((intro w hSw); (try dsimp only at hSw); go_simp; try with_reducible rfl)
              try simp only [Act.put, List.setIfInBounds_toArray, List.set_cons_zero, List.set_cons_succ]
              refine wpAnyH_done (by kernel_rfl) ?_ _
              go_wp2
              go_ret
              exact ⟨rfl, by assumption⟩
end Go.Proofs.Ythcijcdeecmnmaa
