/- gifread's picture: blocks till the frame is drawn. -/
import Derived.Test.YtkjlejkcedemlaaM16

namespace Go.Proofs.Ytkjlejkcedemlaa
set_option maxRecDepth 100000
set_option linter.unusedVariables false
open Go.ChangeShapes Go.WideShapes Go.ChangeAt Go.RowKit

theorem GdS.setTab {g m p : Nat} {b : Nat → Nat} {T : Value} {cl : Int} {w : World} (h : GdS g m p b T cl w) (V : Value) : GdS g m p b V cl (w.setCell ⟨g, 1, none⟩ V) := by
  obtain ⟨h1, h2, Z, cz, h3, h4, h5, h6, h7, h8⟩ := h
  have hw : Chg [g] w (w.setCell ⟨g, 1, none⟩ V) := (Chg.refl [g] w).set (g := g) (.inl (by simp)) 1 _
  exact ⟨by simpa [World.setCell] using h1, h2, Z, cz, heap_set h3, h4, h5, h6, h7, h8.chgG hw h7⟩
/-- A picture is made, or none may be. -/
def GdpR (w2 : World) (W H : Nat) (s4 s5 : Value) (wx : World) : Prop := Chg [] w2 wx ∧
  ((sizeE (W : Nat) (H : Nat) = 0 ∧ s5 = .int .i64 0 ∧ ∃ rb ga cap, s4 = .pointer (some ⟨rb, 0, none⟩) ∧ wx.heap[rb]? = some (.cells #[.int .i64 (W : Nat), .int .i64 (H : Nat), .slice (some ⟨ga, 0, none⟩) (4 * (W * H)) cap] 26 (0, 0)) ∧ Own 0 wx (some ⟨ga, 0, none⟩) (4 * (W * H)) noP ∧ 4 * (W * H) ≤ cap ∧ cap ≤ maxLen ∧ w2.heap.size ≤ ga ∧ w2.heap.size ≤ rb ∧ rb ≠ ga) ∨
   (sizeE (W : Nat) (H : Nat) ≠ 0 ∧ s5 = .int .i64 (sizeE (W : Nat) (H : Nat))))
theorem gdp_bad {w2 v : World} {W H rb : Nat} {s4 v0 v1 v2 : Value} (hb : Below w2.heap.size w2 v) (hrl : w2.heap.size ≤ rb) (hz : sizeE (W : Nat) (H : Nat) ≠ 0) :
    GdpR w2 W H s4 (.int .i64 (sizeE (W : Nat) (H : Nat))) (((v.setCell ⟨rb, 0, none⟩ v0).setCell ⟨rb, 1, none⟩ v1).setCell ⟨rb, 2, none⟩ v2) :=
  ⟨((((Chg.of_below hb).set (g := rb) (.inr hrl) 0 _).set (g := rb) (.inr hrl) 1 _).set (g := rb) (.inr hrl) 2 _), .inr ⟨hz, rfl⟩⟩
theorem gdp_good {w2 v : World} {W H rb ga cap : Nat} (hb : Below w2.heap.size w2 v) (hx : v.heap[rb]? = some (.cells #[.int .i64 0, .int .i64 0, .slice none 0 0] 26 (0, 0))) (hO : Own 0 v (some ⟨ga, 0, none⟩) (4 * (W * H)) (fun _ => 0)) (hrl : w2.heap.size ≤ rb) (hgw : w2.heap.size ≤ ga) (hne : rb ≠ ga) (hn : 4 * (W * H) ≤ cap) (hc : cap ≤ maxLen) (hz : sizeE (W : Nat) (H : Nat) = 0) :
    GdpR w2 W H (.pointer (some ⟨rb, 0, none⟩)) (.int .i64 0) (((v.setCell ⟨rb, 0, none⟩ (.int .i64 (W : Nat))).setCell ⟨rb, 1, none⟩ (.int .i64 (H : Nat))).setCell ⟨rb, 2, none⟩ (.slice (some ⟨ga, 0, none⟩) (4 * (W * H)) cap)) := by
  refine ⟨((((Chg.of_below hb).set (g := rb) (.inr hrl) 0 _).set (g := rb) (.inr hrl) 1 _).set (g := rb) (.inr hrl) 2 _), .inl ⟨hz, rfl, rb, ga, cap, rfl, heap_set (heap_set (heap_set hx)), fun h0 => ?_, hn, hc, hgw, hrl, hne⟩⟩
  obtain ⟨k, cur, he, h1, hg, h2⟩ := hO h0
  cases he
  exact ⟨ga, cur, rfl, h1, hp_oth (hp_oth (hp_oth hg (fun e => hne e.symm)) (fun e => hne e.symm)) (fun e => hne e.symm), h2⟩
/-- A file's picture behind its head. -/
def headG (b : Nat → Nat) (m W H : Nat) : (Nat → Nat) × Nat :=
  if sizeE (W : Nat) (H : Nat) ≠ 0 then (noP, 6)
  else if b 10 / 128 = 1 then
    if m < 13 + 3 * 2 ^ (b 10 % 8 + 1) then (noP, 2)
    else partsG b m W H (tabC b 13 (2 ^ (b 10 % 8 + 1))) (m + 1) (13 + 3 * 2 ^ (b 10 % 8 + 1)) (-1)
  else partsG b m W H [] (m + 1) 13 (-1)
def picR (g W H : Nat) (r : (Nat → Nat) × Nat) (w : World) (e : Ending) (w' : World) : Prop :=
  Chg [g] w w' ∧ ((r.2 = 0 ∧ ∃ ga cap, w.heap.size ≤ ga ∧ 4 * (W * H) ≤ cap ∧ cap ≤ maxLen ∧ e = .returned (.agg #[.int .i64 (W : Nat), .int .i64 (H : Nat), .slice (some ⟨ga, 0, none⟩) (4 * (W * H)) cap]) ∧ Own 0 w' (some ⟨ga, 0, none⟩) (4 * (W * H)) r.1) ∨ (r.2 ≠ 0 ∧ PanE (r.2 : Nat) e))
set_option maxRecDepth 100000 in
set_option maxHeartbeats 4000000 in
theorem picture_g (g m : Nat) (b : Nat → Nat) (hbt : ∀ i, b i < 256) (hsm : m ≤ 262144) (h13 : 13 ≤ m) (w : World) (hG : GdS g m 0 b (.slice none 0 0) (-1) w) (W H : Nat) (hW : lowD b 6 2 = W) (hH : lowD b 8 2 = H) :
    Calls Try.prog 23 #[.pointer (some ⟨g, 0, none⟩)] w (picR g W H (headG b m W H) w) := by
  obtain ⟨r, hr⟩ : ∃ r, r = headG b m W H := ⟨_, rfl⟩
  rw [← hr]
  unfold headG at hr
  have hX := hp_new0 w (.cells #[.int .i64 0, .int .i64 0, .slice none 0 0] 26)
  have hB1 : Below w.heap.size w (w.alloc (.cells #[.int .i64 0, .int .i64 0, .slice none 0 0] 26)) := (Below.refl _ w).alloc (Nat.le_refl _) _
  have HX := Lib.hid hX
  have HC1 : Hid (Chg [g] w (w.alloc (.cells #[.int .i64 0, .int .i64 0, .slice none 0 0] 26))) := Lib.hid (Chg.of_below hB1)
  have HG1 := Lib.hid (hG.below hB1)
  have hglt := hG.lt
  have HBT := Lib.hid hbt
  have HR := Lib.hid hr
  have x0 := lowD_lt hbt 6 2
  have x1 := lowD_lt hbt 8 2
  rw [show (256 : Nat) ^ 2 = 65536 from rfl, hW] at x0
  rw [show (256 : Nat) ^ 2 = 65536 from rfl, hH] at x1
  have HW := Lib.hid hW
  have HH := Lib.hid hH
  clear hG hbt hr hX hB1 hW hH
  go_enter Try.func23, Try.ntmps23
  go_wp2_with fail
  generalize w.alloc (.cells #[.int .i64 0, .int .i64 0, .slice none 0 0] 26) = w1 at *
  refine (take_yes g m 0 13 b _ (-1) w1 HG1.out (by omega) (by omega)).mono ?_
  rintro e w2 ⟨Z, cz, rfl, hS2, hG2, hC2⟩
  have HS2 := Lib.hid hS2
  have HG2 := Lib.hid hG2
  have HC2 := Lib.hid (HC1.out.trans hC2)
  have HX2 := Lib.hid (hp_chg HX.out hC2 (by simp; omega))
  have hw12 : w.heap.size < w2.heap.size := lt_heap HX2.out
  have hz9 := HS2.out.le
  have R6 := run_lo Z 13 cz 6 (by omega)
  have R8 := run_lo Z 13 cz 8 (by omega)
  have b6 : Byt w2 (if cz = 6 then Z else Z.map (·.add 6)) 7 (fun j => b (0 + (6 + j))) := HS2.out.byt.from HS2.out.le (by omega)
  have b8 : Byt w2 (if cz = 8 then Z else Z.map (·.add 8)) 5 (fun j => b (0 + (8 + j))) := HS2.out.byt.from HS2.out.le (by omega)
  obtain ⟨Z6, hZ6⟩ : ∃ Z2, Z2 = (if cz = 6 then Z else Z.map (·.add 6)) := ⟨_, rfl⟩
  obtain ⟨Z8, hZ8⟩ : ∃ Z2, Z2 = (if cz = 8 then Z else Z.map (·.add 8)) := ⟨_, rfl⟩
  rw [← hZ6, show ((6 : Nat) : Int) = 6 from rfl] at R6
  rw [← hZ6] at b6
  rw [← hZ8, show ((8 : Nat) : Int) = 8 from rfl] at R8
  rw [← hZ8] at b8
  have HL6 : Hid (∀ W9, Below w2.heap.size w2 W9 → Calls Try.prog 36 #[.slice Z6 7 (cz - 6)] W9 fun e w' => e = .returned (.int .i64 (W : Nat)) ∧ ∃ k, w' = W9.drewN k) := Lib.hid (fun W9 hb9 => by
    have h := number_g Z6 7 (cz - 6) _ (fun _ => HBT.out _) (by omega) (by omega) W9 (b6.below hb9)
    rwa [show lowD (fun j => b (0 + (6 + j))) 0 2 = W by rw [← HW.out]; simp only [lowD, Nat.add_assoc, Nat.zero_add, Nat.add_zero, Nat.mul_zero]] at h)
  have HL8 : Hid (∀ W9, Below w2.heap.size w2 W9 → Calls Try.prog 36 #[.slice Z8 5 (cz - 8)] W9 fun e w' => e = .returned (.int .i64 (H : Nat)) ∧ ∃ k, w' = W9.drewN k) := Lib.hid (fun W9 hb9 => by
    have h := number_g Z8 5 (cz - 8) _ (fun _ => HBT.out _) (by omega) (by omega) W9 (b8.below hb9)
    rwa [show lowD (fun j => b (0 + (8 + j))) 0 2 = H by rw [← HH.out]; simp only [lowD, Nat.add_assoc, Nat.zero_add, Nat.add_zero, Nat.mul_zero]] at h)
  obtain ⟨bk, of, hZe, _, hcl9⟩ := HS2.out.byt (by omega)
  have c10 : w2.cell? ⟨bk, of + 10, none⟩ = some (.int .u8 (b 10 : Nat)) := by
    have h9 := hcl9 10 (by omega)
    simpa only [Nat.zero_add] using h9
  subst hZe
  clear hS2 hG2 hC2 hZ6 hZ8 b6 b8 hcl9 HX HC1 HG1
  go_upto_region 2 with fail
  go_cut [4, 5] (fun s4 s5 wx => GdpR w2 W H s4 s5 wx)
  case first =>
    by_cases hz : sizeE (W : Nat) (H : Nat) = 0
    · obtain ⟨s1, s2, s3, s4, s5⟩ := size_ok hz
      have h4N : (4 * (W : Int) * (H : Int)).toNat = 4 * (W * H) := by
        rw [Int.mul_assoc, ← Int.natCast_mul]
        omega
      have hn40 : 0 < 4 * (W * H) := by
        have : 1 * 1 ≤ W * H := Nat.mul_le_mul (by omega) (by omega)
        omega
      have HZ := Lib.hid hz
      clear s1 s2 s3 s4 s5 hz
      -- GOOD
      refine wp_region_held_drew (S := fun _ => True) (by kernel_rfl) trivial (fun hHeld => ?_)
      have hb_wd : Below w2.heap.size w2 w2.drew := (Below.refl _ _).drew
      generalize w2.drew = wd at *
      refine wpAnyH_take (i := 0) (oi := ⟨some 9, _, _, _, _, _⟩) (v := ?v0n0) rfl (by kernel_rfl) (by kernel_rfl) (by kernel_rfl) (fun _ _ _ h => h) (Or.inl ⟨by rfl, ?y0n0⟩) hHeld ?r0n0
      case y0n0 => ((intro w hSw); (try dsimp only at hSw); go_simp; try with_reducible rfl)
      try simp only [Act.put, List.setIfInBounds_toArray, List.set_cons_zero, List.set_cons_succ]
      refine wpAnyH_take (i := 1) (oi := ⟨some 10, _, _, _, _, _⟩) (v := ?v1n1) rfl (by kernel_rfl) (by kernel_rfl) (by kernel_rfl) (fun _ _ _ h => h) (Or.inl ⟨by rfl, ?y1n1⟩) hHeld ?r1n1
      case y1n1 => ((intro w hSw); (try dsimp only at hSw); go_simp; try with_reducible rfl)
      try simp only [Act.put, List.setIfInBounds_toArray, List.set_cons_zero, List.set_cons_succ]
      refine wpAnyH_take (i := 3) (oi := ⟨some 12, _, _, _, _, _⟩) (v := ?v3n2) rfl (by kernel_rfl) (by kernel_rfl) (by kernel_rfl) (fun _ _ _ h => h) (Or.inl ⟨by rfl, ?y3n2⟩) hHeld ?r3n2
      case y3n2 => ((intro w hSw); (try dsimp only at hSw); go_simp; try with_reducible rfl)
      try simp only [Act.put, List.setIfInBounds_toArray, List.set_cons_zero, List.set_cons_succ]
      refine wpAnyH_take (i := 4) (oi := ⟨some 13, _, _, _, _, _⟩) (v := ?v4n3) rfl (by kernel_rfl) (by kernel_rfl) (by kernel_rfl) (fun _ _ _ h => h) (Or.inl ⟨by rfl, ?y4n3⟩) hHeld ?r4n3
      case y4n3 => ((intro w hSw); (try dsimp only at hSw); go_simp; try with_reducible rfl)
      try simp only [Act.put, List.setIfInBounds_toArray, List.set_cons_zero, List.set_cons_succ]
      refine wpAnyH_ready (rs := [2, 10]) (by kernel_rfl) (by simp) (AllReadyH.cons (o := ⟨some 11, _, _, _, _, _⟩) rfl (fun K hK => ?_) (AllReadyH.cons (o := ⟨some 4, _, _, _, _, _⟩) rfl (fun K hK => ?_) AllReadyH.nil))
      · go_simp
        refine (HL6.out wd hb_wd).mono ?_
        rintro e v4 ⟨rfl, j4, hj4⟩
        have hb_v4 : Below w2.heap.size w2 v4 := by rw [hj4]; exact below_drewN hb_wd j4
        clear hj4 hb_wd
        go_wp2_with fail
        refine hK.out _ _ trivial (fun hHeld => ?_)
        clear hK K
        try simp only [Act.put, List.setIfInBounds_toArray, List.set_cons_zero, List.set_cons_succ]
        refine wpAnyH_ready (rs := [5, 10]) (by kernel_rfl) (by simp) (AllReadyH.cons (o := ⟨some 14, _, _, _, _, _⟩) rfl (fun K hK => ?_) (AllReadyH.cons (o := ⟨some 4, _, _, _, _, _⟩) rfl (fun K hK => ?_) AllReadyH.nil))
        · go_simp
          refine (HL8.out v4 hb_v4).mono ?_
          rintro e v5 ⟨rfl, j5, hj5⟩
          have hb_v5 : Below w2.heap.size w2 v5 := by rw [hj5]; exact below_drewN hb_v4 j5
          clear hj5 hb_v4
          go_wp2_with fail
          refine hK.out _ _ trivial (fun hHeld => ?_)
          clear hK K
          try simp only [Act.put, List.setIfInBounds_toArray, List.set_cons_zero, List.set_cons_succ]
          refine wpAnyH_ready (rs := [6, 10]) (by kernel_rfl) (by simp) (AllReadyH.cons (o := ⟨some 15, _, _, _, _, _⟩) rfl (fun K hK => ?_) (AllReadyH.cons (o := ⟨some 4, _, _, _, _, _⟩) rfl (fun K hK => ?_) AllReadyH.nil))
          · go_simp
            refine (new_prog (W : Nat) (H : Nat) (by unfold In64; omega) (by unfold In64; omega) v5).mono ?_
            rintro e v6 ⟨hB, ⟨_, v, rfl, hown⟩ | ⟨h, _⟩⟩
            rotate_left
            · exact absurd HZ.out h
            rw [h4N, zeros_16] at hown
            obtain ⟨A9, cap9, rfl, hn9, hc9, _, hO9⟩ := NewRow.of_row hown
            obtain ⟨ga, cur9, rfl, hgB, _⟩ := hO9 hn40
            have hgl := (hO9.lt ga hn40 rfl).2
            have HO9 := Lib.hid (hO9.le (Nat.zero_le _))
            have hgw : w2.heap.size ≤ ga := by have := hb_v5.size; omega
            have hb_v6 := hb_v5.trans (hB.mono hb_v5.size)
            clear hB hb_v5 hown hO9
            go_wp2_with fail
            refine hK.out _ _ trivial (fun hHeld => ?_)
            clear hK K
            try simp only [Act.put, List.setIfInBounds_toArray, List.set_cons_zero, List.set_cons_succ]
            refine wpAnyH_take (i := 7) (oi := ⟨some 8, _, _, _, _, _⟩) (v := ?v7n7) rfl (by kernel_rfl) (by kernel_rfl) (by kernel_rfl) (fun _ _ _ h => h) (Or.inl ⟨by rfl, ?y7n7⟩) hHeld ?r7n7
            case y7n7 => ((intro w hSw); (try dsimp only at hSw); go_simp; try with_reducible rfl)
            try simp only [Act.put, List.setIfInBounds_toArray, List.set_cons_zero, List.set_cons_succ]
            refine wpAnyH_take (i := 8) (oi := ⟨some 16, _, _, _, _, _⟩) (v := ?v8n8) rfl (by kernel_rfl) (by kernel_rfl) (by kernel_rfl) (fun _ _ _ h => h) (Or.inl ⟨by rfl, ?y8n8⟩) hHeld ?r8n8
            case y8n8 => ((intro w hSw); (try dsimp only at hSw); go_simp; try with_reducible rfl)
            try simp only [Act.put, List.setIfInBounds_toArray, List.set_cons_zero, List.set_cons_succ]
            refine wpAnyH_take (i := 9) (oi := ⟨some 17, _, _, _, _, _⟩) (v := ?v9n9) rfl (by kernel_rfl) (by kernel_rfl) (by kernel_rfl) (fun _ _ _ h => h) (Or.inl ⟨by rfl, ?y9n9⟩) hHeld ?r9n9
            case y9n9 => ((intro w hSw); (try dsimp only at hSw); go_simp; try with_reducible rfl)
            try simp only [Act.put, List.setIfInBounds_toArray, List.set_cons_zero, List.set_cons_succ]
            refine wpAnyH_ready (rs := [10]) (by kernel_rfl) (by simp) (AllReadyH.cons (o := ⟨some 4, _, _, _, _, _⟩) rfl (fun K hK => ?_) AllReadyH.nil)
            go_simp
            refine hK.out _ _ trivial (fun hHeld => ?_)
            clear hK K
            try simp only [Act.put, List.setIfInBounds_toArray, List.set_cons_zero, List.set_cons_succ]
            have hb_v10 : Below w2.heap.size w2 (v6.alloc (.cells #[.int .i64 0, .int .i64 0, .slice none 0 0] 26)) := hb_v6.alloc hb_v6.size _
            have hx_v10 := hp_new0 v6 (.cells #[.int .i64 0, .int .i64 0, .slice none 0 0] 26)
            have hrl : w2.heap.size ≤ v6.heap.size := hb_v6.size
            replace HO9 := Lib.hid (HO9.out.below ((Below.refl _ v6).alloc (Nat.le_refl _) (.cells #[.int .i64 0, .int .i64 0, .slice none 0 0] 26)))
            generalize v6.alloc (.cells #[.int .i64 0, .int .i64 0, .slice none 0 0] 26) = v10 at *
            obtain ⟨rb, hrb⟩ : ∃ rb, rb = v6.heap.size := ⟨_, rfl⟩
            rw [← hrb] at hx_v10 hrl ⊢
            have hne : rb ≠ ga := by omega
            clear hrb hb_v6
            have q0 := hp_cell (j := 0) hx_v10 rfl
            have q1 := hp_cell (j := 1) hx_v10 rfl
            have q2 := hp_cell (j := 2) hx_v10 rfl
            have qf := hp_froz hx_v10
            refine wpAnyH_ready (rs := [11]) (by kernel_rfl) (by simp) (AllReadyH.cons (o := ⟨none, _, _, _, _, _⟩) rfl (fun K hK => ?_) AllReadyH.nil)
            go_simp
            refine hK.out _ _ trivial (fun hHeld => ?_)
            clear hK K
            try simp only [Act.put, List.setIfInBounds_toArray, List.set_cons_zero, List.set_cons_succ]
            refine wpAnyH_ready (rs := [12]) (by kernel_rfl) (by simp) (AllReadyH.cons (o := ⟨some 5, _, _, _, _, _⟩) rfl (fun K hK => ?_) AllReadyH.nil)
            go_simp
            refine hK.out _ _ trivial (fun hHeld => ?_)
            clear hK K
            try simp only [Act.put, List.setIfInBounds_toArray, List.set_cons_zero, List.set_cons_succ]
            refine wpAnyH_done (by kernel_rfl) ?_ _
            clear q0 q1 q2 qf
            go_wp2_with fail
            go_meet
            exact gdp_good hb_v10 hx_v10 HO9.out hrl hgw hne hn9 hc9 HZ.out
          · go_simp
            refine hK.out _ _ trivial (fun hHeld => ?_)
            clear hK K
            try simp only [Act.put, List.setIfInBounds_toArray, List.set_cons_zero, List.set_cons_succ]
            have hb_v11 : Below w2.heap.size w2 (v5.alloc (.cells #[.int .i64 0, .int .i64 0, .slice none 0 0] 26)) := hb_v5.alloc hb_v5.size _
            have hx_v11 := hp_new0 v5 (.cells #[.int .i64 0, .int .i64 0, .slice none 0 0] 26)
            have hrl : w2.heap.size ≤ v5.heap.size := hb_v5.size
            generalize v5.alloc (.cells #[.int .i64 0, .int .i64 0, .slice none 0 0] 26) = v11 at *
            obtain ⟨rb, hrb⟩ : ∃ rb, rb = v5.heap.size := ⟨_, rfl⟩
            rw [← hrb] at hx_v11 hrl ⊢
            clear hrb hb_v5
            refine wpAnyH_ready (rs := [6]) (by kernel_rfl) (by simp) (AllReadyH.cons (o := ⟨some 15, _, _, _, _, _⟩) rfl (fun K hK => ?_) AllReadyH.nil)
            go_simp
            refine (new_prog (W : Nat) (H : Nat) (by unfold In64; omega) (by unfold In64; omega) v11).mono ?_
            rintro e v12 ⟨hB, ⟨_, v, rfl, hown⟩ | ⟨h, _⟩⟩
            rotate_left
            · exact absurd HZ.out h
            rw [h4N, zeros_16] at hown
            obtain ⟨A9, cap9, rfl, hn9, hc9, _, hO9⟩ := NewRow.of_row hown
            obtain ⟨ga, cur9, rfl, hgB, _⟩ := hO9 hn40
            have hgl := (hO9.lt ga hn40 rfl).2
            have HO9 := Lib.hid (hO9.le (Nat.zero_le _))
            have hgw : w2.heap.size ≤ ga := by have := hb_v11.size; omega
            have hb_v12 := hb_v11.trans (hB.mono hb_v11.size)
            have hx_v12 := hp_below hx_v11 hB (lt_heap hx_v11)
            have hne : rb ≠ ga := by have := lt_heap hx_v11; omega
            clear hB hb_v11 hx_v11 hown hO9
            go_wp2_with fail
            refine hK.out _ _ trivial (fun hHeld => ?_)
            clear hK K
            try simp only [Act.put, List.setIfInBounds_toArray, List.set_cons_zero, List.set_cons_succ]
            refine wpAnyH_take (i := 7) (oi := ⟨some 8, _, _, _, _, _⟩) (v := ?v7n13) rfl (by kernel_rfl) (by kernel_rfl) (by kernel_rfl) (fun _ _ _ h => h) (Or.inl ⟨by rfl, ?y7n13⟩) hHeld ?r7n13
            case y7n13 => ((intro w hSw); (try dsimp only at hSw); go_simp; try with_reducible rfl)
            try simp only [Act.put, List.setIfInBounds_toArray, List.set_cons_zero, List.set_cons_succ]
            refine wpAnyH_take (i := 8) (oi := ⟨some 16, _, _, _, _, _⟩) (v := ?v8n14) rfl (by kernel_rfl) (by kernel_rfl) (by kernel_rfl) (fun _ _ _ h => h) (Or.inl ⟨by rfl, ?y8n14⟩) hHeld ?r8n14
            case y8n14 => ((intro w hSw); (try dsimp only at hSw); go_simp; try with_reducible rfl)
            try simp only [Act.put, List.setIfInBounds_toArray, List.set_cons_zero, List.set_cons_succ]
            refine wpAnyH_take (i := 9) (oi := ⟨some 17, _, _, _, _, _⟩) (v := ?v9n15) rfl (by kernel_rfl) (by kernel_rfl) (by kernel_rfl) (fun _ _ _ h => h) (Or.inl ⟨by rfl, ?y9n15⟩) hHeld ?r9n15
            case y9n15 => ((intro w hSw); (try dsimp only at hSw); go_simp; try with_reducible rfl)
            try simp only [Act.put, List.setIfInBounds_toArray, List.set_cons_zero, List.set_cons_succ]
            have q0 := hp_cell (j := 0) hx_v12 rfl
            have q1 := hp_cell (j := 1) hx_v12 rfl
            have q2 := hp_cell (j := 2) hx_v12 rfl
            have qf := hp_froz hx_v12
            refine wpAnyH_ready (rs := [11]) (by kernel_rfl) (by simp) (AllReadyH.cons (o := ⟨none, _, _, _, _, _⟩) rfl (fun K hK => ?_) AllReadyH.nil)
            go_simp
            refine hK.out _ _ trivial (fun hHeld => ?_)
            clear hK K
            try simp only [Act.put, List.setIfInBounds_toArray, List.set_cons_zero, List.set_cons_succ]
            refine wpAnyH_ready (rs := [12]) (by kernel_rfl) (by simp) (AllReadyH.cons (o := ⟨some 5, _, _, _, _, _⟩) rfl (fun K hK => ?_) AllReadyH.nil)
            go_simp
            refine hK.out _ _ trivial (fun hHeld => ?_)
            clear hK K
            try simp only [Act.put, List.setIfInBounds_toArray, List.set_cons_zero, List.set_cons_succ]
            refine wpAnyH_done (by kernel_rfl) ?_ _
            clear q0 q1 q2 qf
            go_wp2_with fail
            go_meet
            exact gdp_good hb_v12 hx_v12 HO9.out hrl hgw hne hn9 hc9 HZ.out
        · go_simp
          refine hK.out _ _ trivial (fun hHeld => ?_)
          clear hK K
          try simp only [Act.put, List.setIfInBounds_toArray, List.set_cons_zero, List.set_cons_succ]
          have hb_v16 : Below w2.heap.size w2 (v4.alloc (.cells #[.int .i64 0, .int .i64 0, .slice none 0 0] 26)) := hb_v4.alloc hb_v4.size _
          have hx_v16 := hp_new0 v4 (.cells #[.int .i64 0, .int .i64 0, .slice none 0 0] 26)
          have hrl : w2.heap.size ≤ v4.heap.size := hb_v4.size
          generalize v4.alloc (.cells #[.int .i64 0, .int .i64 0, .slice none 0 0] 26) = v16 at *
          obtain ⟨rb, hrb⟩ : ∃ rb, rb = v4.heap.size := ⟨_, rfl⟩
          rw [← hrb] at hx_v16 hrl ⊢
          clear hrb hb_v4
          refine wpAnyH_ready (rs := [5]) (by kernel_rfl) (by simp) (AllReadyH.cons (o := ⟨some 14, _, _, _, _, _⟩) rfl (fun K hK => ?_) AllReadyH.nil)
          go_simp
          refine (HL8.out v16 hb_v16).mono ?_
          rintro e v17 ⟨rfl, j17, hj17⟩
          have hb_v17 : Below w2.heap.size w2 v17 := by rw [hj17]; exact below_drewN hb_v16 j17
          have hx_v17 : v17.heap[rb]? = some (.cells #[.int .i64 0, .int .i64 0, .slice none 0 0] 26 (0, 0)) := by rw [hj17]; exact hx_v16
          clear hj17 hb_v16 hx_v16
          go_wp2_with fail
          refine hK.out _ _ trivial (fun hHeld => ?_)
          clear hK K
          try simp only [Act.put, List.setIfInBounds_toArray, List.set_cons_zero, List.set_cons_succ]
          refine wpAnyH_ready (rs := [6]) (by kernel_rfl) (by simp) (AllReadyH.cons (o := ⟨some 15, _, _, _, _, _⟩) rfl (fun K hK => ?_) AllReadyH.nil)
          go_simp
          refine (new_prog (W : Nat) (H : Nat) (by unfold In64; omega) (by unfold In64; omega) v17).mono ?_
          rintro e v18 ⟨hB, ⟨_, v, rfl, hown⟩ | ⟨h, _⟩⟩
          rotate_left
          · exact absurd HZ.out h
          rw [h4N, zeros_16] at hown
          obtain ⟨A9, cap9, rfl, hn9, hc9, _, hO9⟩ := NewRow.of_row hown
          obtain ⟨ga, cur9, rfl, hgB, _⟩ := hO9 hn40
          have hgl := (hO9.lt ga hn40 rfl).2
          have HO9 := Lib.hid (hO9.le (Nat.zero_le _))
          have hgw : w2.heap.size ≤ ga := by have := hb_v17.size; omega
          have hb_v18 := hb_v17.trans (hB.mono hb_v17.size)
          have hx_v18 := hp_below hx_v17 hB (lt_heap hx_v17)
          have hne : rb ≠ ga := by have := lt_heap hx_v17; omega
          clear hB hb_v17 hx_v17 hown hO9
          go_wp2_with fail
          refine hK.out _ _ trivial (fun hHeld => ?_)
          clear hK K
          try simp only [Act.put, List.setIfInBounds_toArray, List.set_cons_zero, List.set_cons_succ]
          refine wpAnyH_take (i := 7) (oi := ⟨some 8, _, _, _, _, _⟩) (v := ?v7n19) rfl (by kernel_rfl) (by kernel_rfl) (by kernel_rfl) (fun _ _ _ h => h) (Or.inl ⟨by rfl, ?y7n19⟩) hHeld ?r7n19
          case y7n19 => ((intro w hSw); (try dsimp only at hSw); go_simp; try with_reducible rfl)
          try simp only [Act.put, List.setIfInBounds_toArray, List.set_cons_zero, List.set_cons_succ]
          refine wpAnyH_take (i := 8) (oi := ⟨some 16, _, _, _, _, _⟩) (v := ?v8n20) rfl (by kernel_rfl) (by kernel_rfl) (by kernel_rfl) (fun _ _ _ h => h) (Or.inl ⟨by rfl, ?y8n20⟩) hHeld ?r8n20
          case y8n20 => ((intro w hSw); (try dsimp only at hSw); go_simp; try with_reducible rfl)
          try simp only [Act.put, List.setIfInBounds_toArray, List.set_cons_zero, List.set_cons_succ]
          refine wpAnyH_take (i := 9) (oi := ⟨some 17, _, _, _, _, _⟩) (v := ?v9n21) rfl (by kernel_rfl) (by kernel_rfl) (by kernel_rfl) (fun _ _ _ h => h) (Or.inl ⟨by rfl, ?y9n21⟩) hHeld ?r9n21
          case y9n21 => ((intro w hSw); (try dsimp only at hSw); go_simp; try with_reducible rfl)
          try simp only [Act.put, List.setIfInBounds_toArray, List.set_cons_zero, List.set_cons_succ]
          have q0 := hp_cell (j := 0) hx_v18 rfl
          have q1 := hp_cell (j := 1) hx_v18 rfl
          have q2 := hp_cell (j := 2) hx_v18 rfl
          have qf := hp_froz hx_v18
          refine wpAnyH_ready (rs := [11]) (by kernel_rfl) (by simp) (AllReadyH.cons (o := ⟨none, _, _, _, _, _⟩) rfl (fun K hK => ?_) AllReadyH.nil)
          go_simp
          refine hK.out _ _ trivial (fun hHeld => ?_)
          clear hK K
          try simp only [Act.put, List.setIfInBounds_toArray, List.set_cons_zero, List.set_cons_succ]
          refine wpAnyH_ready (rs := [12]) (by kernel_rfl) (by simp) (AllReadyH.cons (o := ⟨some 5, _, _, _, _, _⟩) rfl (fun K hK => ?_) AllReadyH.nil)
          go_simp
          refine hK.out _ _ trivial (fun hHeld => ?_)
          clear hK K
          try simp only [Act.put, List.setIfInBounds_toArray, List.set_cons_zero, List.set_cons_succ]
          refine wpAnyH_done (by kernel_rfl) ?_ _
          clear q0 q1 q2 qf
          go_wp2_with fail
          go_meet
          exact gdp_good hb_v18 hx_v18 HO9.out hrl hgw hne hn9 hc9 HZ.out
      · go_simp
        refine hK.out _ _ trivial (fun hHeld => ?_)
        clear hK K
        try simp only [Act.put, List.setIfInBounds_toArray, List.set_cons_zero, List.set_cons_succ]
        have hb_v22 : Below w2.heap.size w2 (wd.alloc (.cells #[.int .i64 0, .int .i64 0, .slice none 0 0] 26)) := hb_wd.alloc hb_wd.size _
        have hx_v22 := hp_new0 wd (.cells #[.int .i64 0, .int .i64 0, .slice none 0 0] 26)
        have hrl : w2.heap.size ≤ wd.heap.size := hb_wd.size
        generalize wd.alloc (.cells #[.int .i64 0, .int .i64 0, .slice none 0 0] 26) = v22 at *
        obtain ⟨rb, hrb⟩ : ∃ rb, rb = wd.heap.size := ⟨_, rfl⟩
        rw [← hrb] at hx_v22 hrl ⊢
        clear hrb hb_wd
        refine wpAnyH_ready (rs := [2]) (by kernel_rfl) (by simp) (AllReadyH.cons (o := ⟨some 11, _, _, _, _, _⟩) rfl (fun K hK => ?_) AllReadyH.nil)
        go_simp
        refine (HL6.out v22 hb_v22).mono ?_
        rintro e v23 ⟨rfl, j23, hj23⟩
        have hb_v23 : Below w2.heap.size w2 v23 := by rw [hj23]; exact below_drewN hb_v22 j23
        have hx_v23 : v23.heap[rb]? = some (.cells #[.int .i64 0, .int .i64 0, .slice none 0 0] 26 (0, 0)) := by rw [hj23]; exact hx_v22
        clear hj23 hb_v22 hx_v22
        go_wp2_with fail
        refine hK.out _ _ trivial (fun hHeld => ?_)
        clear hK K
        try simp only [Act.put, List.setIfInBounds_toArray, List.set_cons_zero, List.set_cons_succ]
        refine wpAnyH_ready (rs := [5]) (by kernel_rfl) (by simp) (AllReadyH.cons (o := ⟨some 14, _, _, _, _, _⟩) rfl (fun K hK => ?_) AllReadyH.nil)
        go_simp
        refine (HL8.out v23 hb_v23).mono ?_
        rintro e v24 ⟨rfl, j24, hj24⟩
        have hb_v24 : Below w2.heap.size w2 v24 := by rw [hj24]; exact below_drewN hb_v23 j24
        have hx_v24 : v24.heap[rb]? = some (.cells #[.int .i64 0, .int .i64 0, .slice none 0 0] 26 (0, 0)) := by rw [hj24]; exact hx_v23
        clear hj24 hb_v23 hx_v23
        go_wp2_with fail
        refine hK.out _ _ trivial (fun hHeld => ?_)
        clear hK K
        try simp only [Act.put, List.setIfInBounds_toArray, List.set_cons_zero, List.set_cons_succ]
        refine wpAnyH_ready (rs := [6]) (by kernel_rfl) (by simp) (AllReadyH.cons (o := ⟨some 15, _, _, _, _, _⟩) rfl (fun K hK => ?_) AllReadyH.nil)
        go_simp
        refine (new_prog (W : Nat) (H : Nat) (by unfold In64; omega) (by unfold In64; omega) v24).mono ?_
        rintro e v25 ⟨hB, ⟨_, v, rfl, hown⟩ | ⟨h, _⟩⟩
        rotate_left
        · exact absurd HZ.out h
        rw [h4N, zeros_16] at hown
        obtain ⟨A9, cap9, rfl, hn9, hc9, _, hO9⟩ := NewRow.of_row hown
        obtain ⟨ga, cur9, rfl, hgB, _⟩ := hO9 hn40
        have hgl := (hO9.lt ga hn40 rfl).2
        have HO9 := Lib.hid (hO9.le (Nat.zero_le _))
        have hgw : w2.heap.size ≤ ga := by have := hb_v24.size; omega
        have hb_v25 := hb_v24.trans (hB.mono hb_v24.size)
        have hx_v25 := hp_below hx_v24 hB (lt_heap hx_v24)
        have hne : rb ≠ ga := by have := lt_heap hx_v24; omega
        clear hB hb_v24 hx_v24 hown hO9
        go_wp2_with fail
        refine hK.out _ _ trivial (fun hHeld => ?_)
        clear hK K
        try simp only [Act.put, List.setIfInBounds_toArray, List.set_cons_zero, List.set_cons_succ]
        refine wpAnyH_take (i := 7) (oi := ⟨some 8, _, _, _, _, _⟩) (v := ?v7n26) rfl (by kernel_rfl) (by kernel_rfl) (by kernel_rfl) (fun _ _ _ h => h) (Or.inl ⟨by rfl, ?y7n26⟩) hHeld ?r7n26
        case y7n26 => ((intro w hSw); (try dsimp only at hSw); go_simp; try with_reducible rfl)
        try simp only [Act.put, List.setIfInBounds_toArray, List.set_cons_zero, List.set_cons_succ]
        refine wpAnyH_take (i := 8) (oi := ⟨some 16, _, _, _, _, _⟩) (v := ?v8n27) rfl (by kernel_rfl) (by kernel_rfl) (by kernel_rfl) (fun _ _ _ h => h) (Or.inl ⟨by rfl, ?y8n27⟩) hHeld ?r8n27
        case y8n27 => ((intro w hSw); (try dsimp only at hSw); go_simp; try with_reducible rfl)
        try simp only [Act.put, List.setIfInBounds_toArray, List.set_cons_zero, List.set_cons_succ]
        refine wpAnyH_take (i := 9) (oi := ⟨some 17, _, _, _, _, _⟩) (v := ?v9n28) rfl (by kernel_rfl) (by kernel_rfl) (by kernel_rfl) (fun _ _ _ h => h) (Or.inl ⟨by rfl, ?y9n28⟩) hHeld ?r9n28
        case y9n28 => ((intro w hSw); (try dsimp only at hSw); go_simp; try with_reducible rfl)
        try simp only [Act.put, List.setIfInBounds_toArray, List.set_cons_zero, List.set_cons_succ]
        have q0 := hp_cell (j := 0) hx_v25 rfl
        have q1 := hp_cell (j := 1) hx_v25 rfl
        have q2 := hp_cell (j := 2) hx_v25 rfl
        have qf := hp_froz hx_v25
        refine wpAnyH_ready (rs := [11]) (by kernel_rfl) (by simp) (AllReadyH.cons (o := ⟨none, _, _, _, _, _⟩) rfl (fun K hK => ?_) AllReadyH.nil)
        go_simp
        refine hK.out _ _ trivial (fun hHeld => ?_)
        clear hK K
        try simp only [Act.put, List.setIfInBounds_toArray, List.set_cons_zero, List.set_cons_succ]
        refine wpAnyH_ready (rs := [12]) (by kernel_rfl) (by simp) (AllReadyH.cons (o := ⟨some 5, _, _, _, _, _⟩) rfl (fun K hK => ?_) AllReadyH.nil)
        go_simp
        refine hK.out _ _ trivial (fun hHeld => ?_)
        clear hK K
        try simp only [Act.put, List.setIfInBounds_toArray, List.set_cons_zero, List.set_cons_succ]
        refine wpAnyH_done (by kernel_rfl) ?_ _
        clear q0 q1 q2 qf
        go_wp2_with fail
        go_meet
        exact gdp_good hb_v25 hx_v25 HO9.out hrl hgw hne hn9 hc9 HZ.out
      -- END GOOD
    · have HZ := Lib.hid hz
      clear hz
      -- BAD
      refine wp_region_held_drew (S := fun _ => True) (by kernel_rfl) trivial (fun hHeld => ?_)
      have hb_wd : Below w2.heap.size w2 w2.drew := (Below.refl _ _).drew
      generalize w2.drew = wd at *
      refine wpAnyH_take (i := 0) (oi := ⟨some 9, _, _, _, _, _⟩) (v := ?v0n29) rfl (by kernel_rfl) (by kernel_rfl) (by kernel_rfl) (fun _ _ _ h => h) (Or.inl ⟨by rfl, ?y0n29⟩) hHeld ?r0n29
      case y0n29 => ((intro w hSw); (try dsimp only at hSw); go_simp; try with_reducible rfl)
      try simp only [Act.put, List.setIfInBounds_toArray, List.set_cons_zero, List.set_cons_succ]
      refine wpAnyH_take (i := 1) (oi := ⟨some 10, _, _, _, _, _⟩) (v := ?v1n30) rfl (by kernel_rfl) (by kernel_rfl) (by kernel_rfl) (fun _ _ _ h => h) (Or.inl ⟨by rfl, ?y1n30⟩) hHeld ?r1n30
      case y1n30 => ((intro w hSw); (try dsimp only at hSw); go_simp; try with_reducible rfl)
      try simp only [Act.put, List.setIfInBounds_toArray, List.set_cons_zero, List.set_cons_succ]
      refine wpAnyH_take (i := 3) (oi := ⟨some 12, _, _, _, _, _⟩) (v := ?v3n31) rfl (by kernel_rfl) (by kernel_rfl) (by kernel_rfl) (fun _ _ _ h => h) (Or.inl ⟨by rfl, ?y3n31⟩) hHeld ?r3n31
      case y3n31 => ((intro w hSw); (try dsimp only at hSw); go_simp; try with_reducible rfl)
      try simp only [Act.put, List.setIfInBounds_toArray, List.set_cons_zero, List.set_cons_succ]
      refine wpAnyH_take (i := 4) (oi := ⟨some 13, _, _, _, _, _⟩) (v := ?v4n32) rfl (by kernel_rfl) (by kernel_rfl) (by kernel_rfl) (fun _ _ _ h => h) (Or.inl ⟨by rfl, ?y4n32⟩) hHeld ?r4n32
      case y4n32 => ((intro w hSw); (try dsimp only at hSw); go_simp; try with_reducible rfl)
      try simp only [Act.put, List.setIfInBounds_toArray, List.set_cons_zero, List.set_cons_succ]
      refine wpAnyH_ready (rs := [2, 10]) (by kernel_rfl) (by simp) (AllReadyH.cons (o := ⟨some 11, _, _, _, _, _⟩) rfl (fun K hK => ?_) (AllReadyH.cons (o := ⟨some 4, _, _, _, _, _⟩) rfl (fun K hK => ?_) AllReadyH.nil))
      · go_simp
        refine (HL6.out wd hb_wd).mono ?_
        rintro e v33 ⟨rfl, j33, hj33⟩
        have hb_v33 : Below w2.heap.size w2 v33 := by rw [hj33]; exact below_drewN hb_wd j33
        clear hj33 hb_wd
        go_wp2_with fail
        refine hK.out _ _ trivial (fun hHeld => ?_)
        clear hK K
        try simp only [Act.put, List.setIfInBounds_toArray, List.set_cons_zero, List.set_cons_succ]
        refine wpAnyH_ready (rs := [5, 10]) (by kernel_rfl) (by simp) (AllReadyH.cons (o := ⟨some 14, _, _, _, _, _⟩) rfl (fun K hK => ?_) (AllReadyH.cons (o := ⟨some 4, _, _, _, _, _⟩) rfl (fun K hK => ?_) AllReadyH.nil))
        · go_simp
          refine (HL8.out v33 hb_v33).mono ?_
          rintro e v34 ⟨rfl, j34, hj34⟩
          have hb_v34 : Below w2.heap.size w2 v34 := by rw [hj34]; exact below_drewN hb_v33 j34
          clear hj34 hb_v33
          go_wp2_with fail
          refine hK.out _ _ trivial (fun hHeld => ?_)
          clear hK K
          try simp only [Act.put, List.setIfInBounds_toArray, List.set_cons_zero, List.set_cons_succ]
          refine wpAnyH_ready (rs := [6, 10]) (by kernel_rfl) (by simp) (AllReadyH.cons (o := ⟨some 15, _, _, _, _, _⟩) rfl (fun K hK => ?_) (AllReadyH.cons (o := ⟨some 4, _, _, _, _, _⟩) rfl (fun K hK => ?_) AllReadyH.nil))
          · go_simp
            refine (new_prog (W : Nat) (H : Nat) (by unfold In64; omega) (by unfold In64; omega) v34).mono ?_
            rintro e v35 ⟨hB, ⟨h, _⟩ | ⟨_, rfl⟩⟩
            · exact absurd h HZ.out
            have hb_v35 := hb_v34.trans (hB.mono hb_v34.size)
            clear hB hb_v34
            go_wp2_with fail
            refine hK.out _ _ trivial (fun hHeld => ?_)
            clear hK K
            try simp only [Act.put, List.setIfInBounds_toArray, List.set_cons_zero, List.set_cons_succ]
            refine wpAnyH_take (i := 7) (oi := ⟨some 8, _, _, _, _, _⟩) (v := ?v7n36) rfl (by kernel_rfl) (by kernel_rfl) (by kernel_rfl) (fun _ _ _ h => h) (Or.inl ⟨by rfl, ?y7n36⟩) hHeld ?r7n36
            case y7n36 => ((intro w hSw); (try dsimp only at hSw); go_simp; try with_reducible rfl)
            try simp only [Act.put, List.setIfInBounds_toArray, List.set_cons_zero, List.set_cons_succ]
            refine wpAnyH_take (i := 8) (oi := ⟨some 16, _, _, _, _, _⟩) (v := ?v8n37) rfl (by kernel_rfl) (by kernel_rfl) (by kernel_rfl) (fun _ _ _ h => h) (Or.inl ⟨by rfl, ?y8n37⟩) hHeld ?r8n37
            case y8n37 => ((intro w hSw); (try dsimp only at hSw); go_simp; try with_reducible rfl)
            try simp only [Act.put, List.setIfInBounds_toArray, List.set_cons_zero, List.set_cons_succ]
            refine wpAnyH_take (i := 9) (oi := ⟨some 17, _, _, _, _, _⟩) (v := ?v9n38) rfl (by kernel_rfl) (by kernel_rfl) (by kernel_rfl) (fun _ _ _ h => h) (Or.inl ⟨by rfl, ?y9n38⟩) hHeld ?r9n38
            case y9n38 => ((intro w hSw); (try dsimp only at hSw); go_simp; try with_reducible rfl)
            try simp only [Act.put, List.setIfInBounds_toArray, List.set_cons_zero, List.set_cons_succ]
            refine wpAnyH_ready (rs := [10]) (by kernel_rfl) (by simp) (AllReadyH.cons (o := ⟨some 4, _, _, _, _, _⟩) rfl (fun K hK => ?_) AllReadyH.nil)
            go_simp
            refine hK.out _ _ trivial (fun hHeld => ?_)
            clear hK K
            try simp only [Act.put, List.setIfInBounds_toArray, List.set_cons_zero, List.set_cons_succ]
            have hb_v39 : Below w2.heap.size w2 (v35.alloc (.cells #[.int .i64 0, .int .i64 0, .slice none 0 0] 26)) := hb_v35.alloc hb_v35.size _
            have hx_v39 := hp_new0 v35 (.cells #[.int .i64 0, .int .i64 0, .slice none 0 0] 26)
            have hrl : w2.heap.size ≤ v35.heap.size := hb_v35.size
            generalize v35.alloc (.cells #[.int .i64 0, .int .i64 0, .slice none 0 0] 26) = v39 at *
            obtain ⟨rb, hrb⟩ : ∃ rb, rb = v35.heap.size := ⟨_, rfl⟩
            rw [← hrb] at hx_v39 hrl ⊢
            clear hrb hb_v35
            have q0 := hp_cell (j := 0) hx_v39 rfl
            have q1 := hp_cell (j := 1) hx_v39 rfl
            have q2 := hp_cell (j := 2) hx_v39 rfl
            have qf := hp_froz hx_v39
            refine wpAnyH_ready (rs := [11]) (by kernel_rfl) (by simp) (AllReadyH.cons (o := ⟨none, _, _, _, _, _⟩) rfl (fun K hK => ?_) AllReadyH.nil)
            go_simp
            refine hK.out _ _ trivial (fun hHeld => ?_)
            clear hK K
            try simp only [Act.put, List.setIfInBounds_toArray, List.set_cons_zero, List.set_cons_succ]
            refine wpAnyH_ready (rs := [12]) (by kernel_rfl) (by simp) (AllReadyH.cons (o := ⟨some 5, _, _, _, _, _⟩) rfl (fun K hK => ?_) AllReadyH.nil)
            go_simp
            refine hK.out _ _ trivial (fun hHeld => ?_)
            clear hK K
            try simp only [Act.put, List.setIfInBounds_toArray, List.set_cons_zero, List.set_cons_succ]
            refine wpAnyH_done (by kernel_rfl) ?_ _
            clear q0 q1 q2 qf
            go_wp2_with fail
            go_meet
            exact gdp_bad hb_v39 hrl HZ.out
          · go_simp
            refine hK.out _ _ trivial (fun hHeld => ?_)
            clear hK K
            try simp only [Act.put, List.setIfInBounds_toArray, List.set_cons_zero, List.set_cons_succ]
            have hb_v40 : Below w2.heap.size w2 (v34.alloc (.cells #[.int .i64 0, .int .i64 0, .slice none 0 0] 26)) := hb_v34.alloc hb_v34.size _
            have hx_v40 := hp_new0 v34 (.cells #[.int .i64 0, .int .i64 0, .slice none 0 0] 26)
            have hrl : w2.heap.size ≤ v34.heap.size := hb_v34.size
            generalize v34.alloc (.cells #[.int .i64 0, .int .i64 0, .slice none 0 0] 26) = v40 at *
            obtain ⟨rb, hrb⟩ : ∃ rb, rb = v34.heap.size := ⟨_, rfl⟩
            rw [← hrb] at hx_v40 hrl ⊢
            clear hrb hb_v34
            refine wpAnyH_ready (rs := [6]) (by kernel_rfl) (by simp) (AllReadyH.cons (o := ⟨some 15, _, _, _, _, _⟩) rfl (fun K hK => ?_) AllReadyH.nil)
            go_simp
            refine (new_prog (W : Nat) (H : Nat) (by unfold In64; omega) (by unfold In64; omega) v40).mono ?_
            rintro e v41 ⟨hB, ⟨h, _⟩ | ⟨_, rfl⟩⟩
            · exact absurd h HZ.out
            have hb_v41 := hb_v40.trans (hB.mono hb_v40.size)
            have hx_v41 := hp_below hx_v40 hB (lt_heap hx_v40)
            clear hB hb_v40 hx_v40
            go_wp2_with fail
            refine hK.out _ _ trivial (fun hHeld => ?_)
            clear hK K
            try simp only [Act.put, List.setIfInBounds_toArray, List.set_cons_zero, List.set_cons_succ]
            refine wpAnyH_take (i := 7) (oi := ⟨some 8, _, _, _, _, _⟩) (v := ?v7n42) rfl (by kernel_rfl) (by kernel_rfl) (by kernel_rfl) (fun _ _ _ h => h) (Or.inl ⟨by rfl, ?y7n42⟩) hHeld ?r7n42
            case y7n42 => ((intro w hSw); (try dsimp only at hSw); go_simp; try with_reducible rfl)
            try simp only [Act.put, List.setIfInBounds_toArray, List.set_cons_zero, List.set_cons_succ]
            refine wpAnyH_take (i := 8) (oi := ⟨some 16, _, _, _, _, _⟩) (v := ?v8n43) rfl (by kernel_rfl) (by kernel_rfl) (by kernel_rfl) (fun _ _ _ h => h) (Or.inl ⟨by rfl, ?y8n43⟩) hHeld ?r8n43
            case y8n43 => ((intro w hSw); (try dsimp only at hSw); go_simp; try with_reducible rfl)
            try simp only [Act.put, List.setIfInBounds_toArray, List.set_cons_zero, List.set_cons_succ]
            refine wpAnyH_take (i := 9) (oi := ⟨some 17, _, _, _, _, _⟩) (v := ?v9n44) rfl (by kernel_rfl) (by kernel_rfl) (by kernel_rfl) (fun _ _ _ h => h) (Or.inl ⟨by rfl, ?y9n44⟩) hHeld ?r9n44
            case y9n44 => ((intro w hSw); (try dsimp only at hSw); go_simp; try with_reducible rfl)
            try simp only [Act.put, List.setIfInBounds_toArray, List.set_cons_zero, List.set_cons_succ]
            have q0 := hp_cell (j := 0) hx_v41 rfl
            have q1 := hp_cell (j := 1) hx_v41 rfl
            have q2 := hp_cell (j := 2) hx_v41 rfl
            have qf := hp_froz hx_v41
            refine wpAnyH_ready (rs := [11]) (by kernel_rfl) (by simp) (AllReadyH.cons (o := ⟨none, _, _, _, _, _⟩) rfl (fun K hK => ?_) AllReadyH.nil)
            go_simp
            refine hK.out _ _ trivial (fun hHeld => ?_)
            clear hK K
            try simp only [Act.put, List.setIfInBounds_toArray, List.set_cons_zero, List.set_cons_succ]
            refine wpAnyH_ready (rs := [12]) (by kernel_rfl) (by simp) (AllReadyH.cons (o := ⟨some 5, _, _, _, _, _⟩) rfl (fun K hK => ?_) AllReadyH.nil)
            go_simp
            refine hK.out _ _ trivial (fun hHeld => ?_)
            clear hK K
            try simp only [Act.put, List.setIfInBounds_toArray, List.set_cons_zero, List.set_cons_succ]
            refine wpAnyH_done (by kernel_rfl) ?_ _
            clear q0 q1 q2 qf
            go_wp2_with fail
            go_meet
            exact gdp_bad hb_v41 hrl HZ.out
        · go_simp
          refine hK.out _ _ trivial (fun hHeld => ?_)
          clear hK K
          try simp only [Act.put, List.setIfInBounds_toArray, List.set_cons_zero, List.set_cons_succ]
          have hb_v45 : Below w2.heap.size w2 (v33.alloc (.cells #[.int .i64 0, .int .i64 0, .slice none 0 0] 26)) := hb_v33.alloc hb_v33.size _
          have hx_v45 := hp_new0 v33 (.cells #[.int .i64 0, .int .i64 0, .slice none 0 0] 26)
          have hrl : w2.heap.size ≤ v33.heap.size := hb_v33.size
          generalize v33.alloc (.cells #[.int .i64 0, .int .i64 0, .slice none 0 0] 26) = v45 at *
          obtain ⟨rb, hrb⟩ : ∃ rb, rb = v33.heap.size := ⟨_, rfl⟩
          rw [← hrb] at hx_v45 hrl ⊢
          clear hrb hb_v33
          refine wpAnyH_ready (rs := [5]) (by kernel_rfl) (by simp) (AllReadyH.cons (o := ⟨some 14, _, _, _, _, _⟩) rfl (fun K hK => ?_) AllReadyH.nil)
          go_simp
          refine (HL8.out v45 hb_v45).mono ?_
          rintro e v46 ⟨rfl, j46, hj46⟩
          have hb_v46 : Below w2.heap.size w2 v46 := by rw [hj46]; exact below_drewN hb_v45 j46
          have hx_v46 : v46.heap[rb]? = some (.cells #[.int .i64 0, .int .i64 0, .slice none 0 0] 26 (0, 0)) := by rw [hj46]; exact hx_v45
          clear hj46 hb_v45 hx_v45
          go_wp2_with fail
          refine hK.out _ _ trivial (fun hHeld => ?_)
          clear hK K
          try simp only [Act.put, List.setIfInBounds_toArray, List.set_cons_zero, List.set_cons_succ]
          refine wpAnyH_ready (rs := [6]) (by kernel_rfl) (by simp) (AllReadyH.cons (o := ⟨some 15, _, _, _, _, _⟩) rfl (fun K hK => ?_) AllReadyH.nil)
          go_simp
          refine (new_prog (W : Nat) (H : Nat) (by unfold In64; omega) (by unfold In64; omega) v46).mono ?_
          rintro e v47 ⟨hB, ⟨h, _⟩ | ⟨_, rfl⟩⟩
          · exact absurd h HZ.out
          have hb_v47 := hb_v46.trans (hB.mono hb_v46.size)
          have hx_v47 := hp_below hx_v46 hB (lt_heap hx_v46)
          clear hB hb_v46 hx_v46
          go_wp2_with fail
          refine hK.out _ _ trivial (fun hHeld => ?_)
          clear hK K
          try simp only [Act.put, List.setIfInBounds_toArray, List.set_cons_zero, List.set_cons_succ]
          refine wpAnyH_take (i := 7) (oi := ⟨some 8, _, _, _, _, _⟩) (v := ?v7n48) rfl (by kernel_rfl) (by kernel_rfl) (by kernel_rfl) (fun _ _ _ h => h) (Or.inl ⟨by rfl, ?y7n48⟩) hHeld ?r7n48
          case y7n48 => ((intro w hSw); (try dsimp only at hSw); go_simp; try with_reducible rfl)
          try simp only [Act.put, List.setIfInBounds_toArray, List.set_cons_zero, List.set_cons_succ]
          refine wpAnyH_take (i := 8) (oi := ⟨some 16, _, _, _, _, _⟩) (v := ?v8n49) rfl (by kernel_rfl) (by kernel_rfl) (by kernel_rfl) (fun _ _ _ h => h) (Or.inl ⟨by rfl, ?y8n49⟩) hHeld ?r8n49
          case y8n49 => ((intro w hSw); (try dsimp only at hSw); go_simp; try with_reducible rfl)
          try simp only [Act.put, List.setIfInBounds_toArray, List.set_cons_zero, List.set_cons_succ]
          refine wpAnyH_take (i := 9) (oi := ⟨some 17, _, _, _, _, _⟩) (v := ?v9n50) rfl (by kernel_rfl) (by kernel_rfl) (by kernel_rfl) (fun _ _ _ h => h) (Or.inl ⟨by rfl, ?y9n50⟩) hHeld ?r9n50
          case y9n50 => ((intro w hSw); (try dsimp only at hSw); go_simp; try with_reducible rfl)
          try simp only [Act.put, List.setIfInBounds_toArray, List.set_cons_zero, List.set_cons_succ]
          have q0 := hp_cell (j := 0) hx_v47 rfl
          have q1 := hp_cell (j := 1) hx_v47 rfl
          have q2 := hp_cell (j := 2) hx_v47 rfl
          have qf := hp_froz hx_v47
          refine wpAnyH_ready (rs := [11]) (by kernel_rfl) (by simp) (AllReadyH.cons (o := ⟨none, _, _, _, _, _⟩) rfl (fun K hK => ?_) AllReadyH.nil)
          go_simp
          refine hK.out _ _ trivial (fun hHeld => ?_)
          clear hK K
          try simp only [Act.put, List.setIfInBounds_toArray, List.set_cons_zero, List.set_cons_succ]
          refine wpAnyH_ready (rs := [12]) (by kernel_rfl) (by simp) (AllReadyH.cons (o := ⟨some 5, _, _, _, _, _⟩) rfl (fun K hK => ?_) AllReadyH.nil)
          go_simp
          refine hK.out _ _ trivial (fun hHeld => ?_)
          clear hK K
          try simp only [Act.put, List.setIfInBounds_toArray, List.set_cons_zero, List.set_cons_succ]
          refine wpAnyH_done (by kernel_rfl) ?_ _
          clear q0 q1 q2 qf
          go_wp2_with fail
          go_meet
          exact gdp_bad hb_v47 hrl HZ.out
      · go_simp
        refine hK.out _ _ trivial (fun hHeld => ?_)
        clear hK K
        try simp only [Act.put, List.setIfInBounds_toArray, List.set_cons_zero, List.set_cons_succ]
        have hb_v51 : Below w2.heap.size w2 (wd.alloc (.cells #[.int .i64 0, .int .i64 0, .slice none 0 0] 26)) := hb_wd.alloc hb_wd.size _
        have hx_v51 := hp_new0 wd (.cells #[.int .i64 0, .int .i64 0, .slice none 0 0] 26)
        have hrl : w2.heap.size ≤ wd.heap.size := hb_wd.size
        generalize wd.alloc (.cells #[.int .i64 0, .int .i64 0, .slice none 0 0] 26) = v51 at *
        obtain ⟨rb, hrb⟩ : ∃ rb, rb = wd.heap.size := ⟨_, rfl⟩
        rw [← hrb] at hx_v51 hrl ⊢
        clear hrb hb_wd
        refine wpAnyH_ready (rs := [2]) (by kernel_rfl) (by simp) (AllReadyH.cons (o := ⟨some 11, _, _, _, _, _⟩) rfl (fun K hK => ?_) AllReadyH.nil)
        go_simp
        refine (HL6.out v51 hb_v51).mono ?_
        rintro e v52 ⟨rfl, j52, hj52⟩
        have hb_v52 : Below w2.heap.size w2 v52 := by rw [hj52]; exact below_drewN hb_v51 j52
        have hx_v52 : v52.heap[rb]? = some (.cells #[.int .i64 0, .int .i64 0, .slice none 0 0] 26 (0, 0)) := by rw [hj52]; exact hx_v51
        clear hj52 hb_v51 hx_v51
        go_wp2_with fail
        refine hK.out _ _ trivial (fun hHeld => ?_)
        clear hK K
        try simp only [Act.put, List.setIfInBounds_toArray, List.set_cons_zero, List.set_cons_succ]
        refine wpAnyH_ready (rs := [5]) (by kernel_rfl) (by simp) (AllReadyH.cons (o := ⟨some 14, _, _, _, _, _⟩) rfl (fun K hK => ?_) AllReadyH.nil)
        go_simp
        refine (HL8.out v52 hb_v52).mono ?_
        rintro e v53 ⟨rfl, j53, hj53⟩
        have hb_v53 : Below w2.heap.size w2 v53 := by rw [hj53]; exact below_drewN hb_v52 j53
        have hx_v53 : v53.heap[rb]? = some (.cells #[.int .i64 0, .int .i64 0, .slice none 0 0] 26 (0, 0)) := by rw [hj53]; exact hx_v52
        clear hj53 hb_v52 hx_v52
        go_wp2_with fail
        refine hK.out _ _ trivial (fun hHeld => ?_)
        clear hK K
        try simp only [Act.put, List.setIfInBounds_toArray, List.set_cons_zero, List.set_cons_succ]
        refine wpAnyH_ready (rs := [6]) (by kernel_rfl) (by simp) (AllReadyH.cons (o := ⟨some 15, _, _, _, _, _⟩) rfl (fun K hK => ?_) AllReadyH.nil)
        go_simp
        refine (new_prog (W : Nat) (H : Nat) (by unfold In64; omega) (by unfold In64; omega) v53).mono ?_
        rintro e v54 ⟨hB, ⟨h, _⟩ | ⟨_, rfl⟩⟩
        · exact absurd h HZ.out
        have hb_v54 := hb_v53.trans (hB.mono hb_v53.size)
        have hx_v54 := hp_below hx_v53 hB (lt_heap hx_v53)
        clear hB hb_v53 hx_v53
        go_wp2_with fail
        refine hK.out _ _ trivial (fun hHeld => ?_)
        clear hK K
        try simp only [Act.put, List.setIfInBounds_toArray, List.set_cons_zero, List.set_cons_succ]
        refine wpAnyH_take (i := 7) (oi := ⟨some 8, _, _, _, _, _⟩) (v := ?v7n55) rfl (by kernel_rfl) (by kernel_rfl) (by kernel_rfl) (fun _ _ _ h => h) (Or.inl ⟨by rfl, ?y7n55⟩) hHeld ?r7n55
        case y7n55 => ((intro w hSw); (try dsimp only at hSw); go_simp; try with_reducible rfl)
        try simp only [Act.put, List.setIfInBounds_toArray, List.set_cons_zero, List.set_cons_succ]
        refine wpAnyH_take (i := 8) (oi := ⟨some 16, _, _, _, _, _⟩) (v := ?v8n56) rfl (by kernel_rfl) (by kernel_rfl) (by kernel_rfl) (fun _ _ _ h => h) (Or.inl ⟨by rfl, ?y8n56⟩) hHeld ?r8n56
        case y8n56 => ((intro w hSw); (try dsimp only at hSw); go_simp; try with_reducible rfl)
        try simp only [Act.put, List.setIfInBounds_toArray, List.set_cons_zero, List.set_cons_succ]
        refine wpAnyH_take (i := 9) (oi := ⟨some 17, _, _, _, _, _⟩) (v := ?v9n57) rfl (by kernel_rfl) (by kernel_rfl) (by kernel_rfl) (fun _ _ _ h => h) (Or.inl ⟨by rfl, ?y9n57⟩) hHeld ?r9n57
        case y9n57 => ((intro w hSw); (try dsimp only at hSw); go_simp; try with_reducible rfl)
        try simp only [Act.put, List.setIfInBounds_toArray, List.set_cons_zero, List.set_cons_succ]
        have q0 := hp_cell (j := 0) hx_v54 rfl
        have q1 := hp_cell (j := 1) hx_v54 rfl
        have q2 := hp_cell (j := 2) hx_v54 rfl
        have qf := hp_froz hx_v54
        refine wpAnyH_ready (rs := [11]) (by kernel_rfl) (by simp) (AllReadyH.cons (o := ⟨none, _, _, _, _, _⟩) rfl (fun K hK => ?_) AllReadyH.nil)
        go_simp
        refine hK.out _ _ trivial (fun hHeld => ?_)
        clear hK K
        try simp only [Act.put, List.setIfInBounds_toArray, List.set_cons_zero, List.set_cons_succ]
        refine wpAnyH_ready (rs := [12]) (by kernel_rfl) (by simp) (AllReadyH.cons (o := ⟨some 5, _, _, _, _, _⟩) rfl (fun K hK => ?_) AllReadyH.nil)
        go_simp
        refine hK.out _ _ trivial (fun hHeld => ?_)
        clear hK K
        try simp only [Act.put, List.setIfInBounds_toArray, List.set_cons_zero, List.set_cons_succ]
        refine wpAnyH_done (by kernel_rfl) ?_ _
        clear q0 q1 q2 qf
        go_wp2_with fail
        go_meet
        exact gdp_bad hb_v54 hrl HZ.out
      -- END BAD
  case rest =>
  obtain ⟨hC, ⟨hz, rfl, rb, ga, cap, rfl, hx, hO, hn, hc, hga, hrb, hne⟩ | ⟨hz, rfl⟩⟩ := hcut
  rotate_left
  · have hr := HR.out
    rw [if_pos hz] at hr
    have HE := Lib.hid hr
    have HCc := Lib.hid (HC2.out.trans (hC.mono (by simp)))
    have t1 : (sizeE (W : Nat) (H : Nat) == 0) = false := beq_eq_false_iff_ne.2 hz
    clear hr hC hz
    go_wp2_with fail
    refine (gmust_no 6 _).mono ?_
    rintro e w3 ⟨hpe, rfl⟩
    obtain rfl := hpe
    go_wp2_with fail
    exact ⟨rfl, by rw [HE.out]; exact ⟨HCc.out, .inr ⟨by decide, rfl⟩⟩⟩
  have hr := HR.out
  rw [if_neg (by rw [hz]; decide)] at hr
  have hg2 := HG2.out.lt
  have c10c := cell_chg hC (by simp) c10
  have hb10 := HBT.out 10
  obtain ⟨fl, hfl⟩ : ∃ q, q = b 10 := ⟨_, rfl⟩
  rw [← hfl] at hr c10c hb10
  have HE := Lib.hid hr
  have HZ := Lib.hid hz
  have HCc := Lib.hid (HC2.out.trans (hC.mono (T := [g]) (by simp)))
  have HXc := Lib.hid (hp_chg HX2.out hC (by simp))
  have HGc : Hid (GdS g m 13 b (.slice none 0 0) (-1) wc) := Lib.hid (by
    obtain ⟨h1, h2, Z9, cz9, h3, h4, h5, h6, h7, h8⟩ := HG2.out
    exact ⟨Nat.lt_of_lt_of_le h1 hC.size, by omega, Z9, cz9, hp_chg h3 hC (by simp), h4, h5, h6, h7, h8.chgS hC (fun _ _ => by simp)⟩)
  have HBX := Lib.hid hx
  have HO := Lib.hid hO
  have hs2c := hC.size
  clear hr hz hC c10 hfl HG2 HX2 hx hO HC2
  go_wp2_with fail
  refine (gmust_yes 6 _).mono ?_
  rintro e w3 ⟨rfl, rfl⟩
  go_upto_region 4 with fail
  go_cut [26] (fun s26 wx => ∃ p1 q1 N1 Z1 cz1, N1 ≤ 256 ∧ SlG g q1 (3 * N1) b Z1 cz1 wx ∧ GdS g m p1 b (.slice Z1 (3 * N1) cz1) (-1) wx ∧ Chg [g] wc wx ∧ Hid (r = partsG b m W H (tabC b q1 N1) (m + 1) p1 (-1)))
  case first =>
    by_cases cf : fl / 128 = 1
    · have hr := HE.out
      rw [if_pos cf] at hr
      have HE1 := Lib.hid hr
      clear hr
      go_wp2_with fail
      refine (colours_yes g m 13 fl _ rfl b _ (.slice none 0 0) (-1) hb10 cf wc HGc.out (by omega)).mono ?_
      obtain ⟨N, hN⟩ : ∃ N, N = 2 ^ (fl % 8 + 1) := ⟨_, rfl⟩
      have hN1 : N ≤ 256 := by
        rw [hN]
        exact Nat.le_trans (Nat.pow_le_pow_right (by omega) (show fl % 8 + 1 ≤ 8 by omega)) (by decide)
      rw [← hN]
      have hr := HE1.out
      rw [← hN] at hr
      have HE2 := Lib.hid hr
      clear hr hN HE1
      rintro e w5 (⟨hp5, Z5, cz5, rfl, hS5, hG5, hC5⟩ | ⟨hp5, hpe, rfl⟩)
      · have hr := HE2.out
        rw [if_neg (by omega)] at hr
        have HE3 := Lib.hid hr
        have hG5c := hG5
        obtain ⟨_, _, Z9, cz9, h9, _⟩ := hG5c
        have g1 := hp_cell (j := 1) h9 rfl
        have gf := hp_froz h9
        have hW5 : Chg [g] w5 (w5.setCell ⟨g, 1, none⟩ (.slice Z5 (3 * N) cz5)) := (Chg.refl [g] w5).set (g := g) (.inl (by simp)) 1 _
        have HS5 := Lib.hid (hS5.chg hW5)
        have HG5 := Lib.hid (hG5.setTab (.slice Z5 (3 * N) cz5))
        have HC5 := Lib.hid (hC5.trans hW5)
        clear hr hS5 hG5 hC5 h9 hW5
        go_wp2_with fail
        go_meet
        exact ⟨13 + 3 * N, 13, N, Z5, cz5, hN1, HS5.out, HG5.out, HC5.out, HE3⟩
      · have hr := HE2.out
        rw [if_pos hp5] at hr
        have HE3 := Lib.hid hr
        clear hr
        obtain rfl := hpe
        go_wp2_with fail
        exact ⟨rfl, by rw [HE3.out]; exact ⟨HCc.out, .inr ⟨by decide, rfl⟩⟩⟩
    · have hr := HE.out
      rw [if_neg cf] at hr
      have HE1 := Lib.hid hr
      obtain ⟨_, _, Z9, cz9, h9, _⟩ := HGc.out
      have g1 := hp_cell (j := 1) h9 rfl
      have gf := hp_froz h9
      clear hr h9
      go_wp2_with fail
      refine (colours_no g fl hb10 cf (.slice none 0 0) wc).mono ?_
      rintro e w5 ⟨rfl, rfl⟩
      go_wp2_with fail
      go_meet
      refine ⟨13, 13, 0, none, 0, by omega, ⟨by omega, by unfold maxLen; omega, (fun a ha => by cases ha), fun h => absurd h (by omega)⟩, HGc.out.setTab (.slice none 0 0), (Chg.refl [g] wc).set (g := g) (.inl (by simp)) 1 _, HE1⟩
  case rest =>
  obtain ⟨p1, q1, N1, Z1, cz1, hN1, hS, hG, hCx, hrr⟩ := hcut
  have HRR := hrr
  have hrbg : rb ≠ g := by omega
  have hgag : ga ≠ g := by omega
  obtain ⟨w9, hw9⟩ : ∃ w9, w9 = wc := ⟨_, rfl⟩
  subst hw9
  have H0 : Hid (∃ (p K : Nat) (cl : Int), m + 1 - p1 = m + 1 - p ∧ p ≤ m ∧ (-1 ≤ cl ∧ cl < 256) ∧ m + 1 ≤ K + p ∧ GdS g m p b (.slice Z1 (3 * N1) cz1) cl w9 ∧ Chg [g] w w9 ∧ w9.heap[rb]? = some (.cells #[.int .i64 (W : Nat), .int .i64 (H : Nat), .slice (some ⟨ga, 0, none⟩) (4 * (W * H)) cap] 26 (0, 0)) ∧ w9.heap[w.heap.size]? = some (.cells #[.int .i64 0, .int .i64 0, .slice none 0 0] 26 (0, 0)) ∧ Own 0 w9 (some ⟨ga, 0, none⟩) (4 * (W * H)) noP ∧ SlG g q1 (3 * N1) b Z1 cz1 w9 ∧ Hid (r = partsG b m W H (tabC b q1 N1) K p cl)) :=
    Lib.hid ⟨p1, m + 1, -1, rfl, hG.pm, ⟨by omega, by omega⟩, by omega, hG, HCc.out.trans hCx, hp_chg HBX.out hCx (by simp; omega), hp_chg HXc.out hCx (by simp; omega), fun h0 => by
      obtain ⟨k, cur, he, h1, hg, h2⟩ := HO.out h0
      cases he
      exact ⟨ga, cur, rfl, h1, hp_chg hg hCx (by simp; omega), h2⟩, hS, HRR⟩
  clear hS hG hCx hrr HRR HBX HO HXc HGc HCc HE c10c
  go_wp2_with fail
  go_loopg [] (m + 1 - p1) (fun k wr => ∃ (p K : Nat) (cl : Int), k = m + 1 - p ∧ p ≤ m ∧ (-1 ≤ cl ∧ cl < 256) ∧ m + 1 ≤ K + p ∧ GdS g m p b (.slice Z1 (3 * N1) cz1) cl wr ∧ Chg [g] w wr ∧ wr.heap[rb]? = some (.cells #[.int .i64 (W : Nat), .int .i64 (H : Nat), .slice (some ⟨ga, 0, none⟩) (4 * (W * H)) cap] 26 (0, 0)) ∧ wr.heap[w.heap.size]? = some (.cells #[.int .i64 0, .int .i64 0, .slice none 0 0] 26 (0, 0)) ∧ Own 0 wr (some ⟨ga, 0, none⟩) (4 * (W * H)) noP ∧ SlG g q1 (3 * N1) b Z1 cz1 wr ∧ Hid (r = partsG b m W H (tabC b q1 N1) K p cl))
  case atStart => exact H0.out
  case round =>
    clear H0
    obtain ⟨p, K, cl, hk, hp, hcl, hK, hG, hC, hx, hres, hO, hS, hrr⟩ := hrel
    obtain ⟨K, rfl⟩ : ∃ K', K = K' + 1 := ⟨K - 1, by omega⟩
    have HG := Lib.hid hG
    have HC := Lib.hid hC
    have HX := Lib.hid hx
    have HRs := Lib.hid hres
    have HO := Lib.hid hO
    have HS := Lib.hid hS
    have HK := Lib.hid hk
    have hgr := hG.lt
    clear hG hC hx hres hO hS hk
    go_wp2_with fail
    by_cases d1 : m ≤ p
    · have hr := hrr.out
      rw [partsG, if_pos d1] at hr
      have HE := Lib.hid hr
      clear hr hrr
      refine (take_no g m p 1 b _ cl wr HG.out (by omega) (by omega)).mono ?_
      rintro e w3 ⟨hpe, rfl⟩
      obtain rfl := hpe
      go_wp2_with fail
      exact ⟨rfl, by rw [HE.out]; exact ⟨HC.out, .inr ⟨by decide, rfl⟩⟩⟩
    refine (take_yes g m p 1 b _ cl wr HG.out (by omega) (by omega)).mono ?_
    rintro e w3 ⟨Z3, cz3, rfl, hS3, hG3, hC3⟩
    obtain ⟨b5, o5, hZ5, _, hcl5⟩ := hS3.byt (by omega)
    have c0 : w3.cell? ⟨b5, o5, none⟩ = some (.int .u8 (b p : Nat)) := hcl5 0 (by omega)
    have hb0 := HBT.out p
    obtain ⟨x, hxx⟩ : ∃ x, x = b p := ⟨_, rfl⟩
    rw [← hxx] at c0 hb0
    have HG3 := Lib.hid hG3
    have HC3 := Lib.hid (HC.out.trans hC3)
    have HX3 := Lib.hid (hp_chg HX.out hC3 (by simp; omega))
    have HR3 := Lib.hid (hp_chg HRs.out hC3 (by simp; omega))
    have HO3 : Hid (Own 0 w3 (some ⟨ga, 0, none⟩) (4 * (W * H)) noP) := Lib.hid (fun h0 => by
      obtain ⟨k, cur, he, h1, hg, h2⟩ := HO.out h0
      cases he
      exact ⟨ga, cur, rfl, h1, hp_chg hg hC3 (by simp; omega), h2⟩)
    have HS3 := Lib.hid (HS.out.chg hC3)
    have HXX := Lib.hid hxx
    have hw3 := hC3.size
    subst hZ5
    clear hS3 hG3 hC3 hcl5 hxx HG HC HX HRs HO HS
    by_cases d2 : x = 33
    · have t1 : ((x : Int) == 33) = true := by simp; omega
      go_wp2_with fail
      refine (more_g g m p b HBT.out hsm _ cl hcl (by omega) (by rw [← HXX.out]; exact d2) w3 HG3.out).mono ?_
      clear c0 t1
      rintro e w4 ⟨hC4, ⟨rfl, p', cl', hp', hcl', hG4, hr4⟩ | ⟨q, hq, hpe, hr4⟩⟩
      · have hE := hrr.out
        rw [hr4] at hE
        have HE := Lib.hid hE
        have HG4 := Lib.hid hG4
        have hpm := hG4.pm
        have HC4 := Lib.hid (HC3.out.trans hC4)
        have HX4 := Lib.hid (hp_chg HX3.out hC4 (by simp; omega))
        have HR4 := Lib.hid (hp_chg HR3.out hC4 (by simp; omega))
        have HO4 : Hid (Own 0 w4 (some ⟨ga, 0, none⟩) (4 * (W * H)) noP) := Lib.hid (fun h0 => by
          obtain ⟨k, cur, he, h1, hg, h2⟩ := HO3.out h0
          cases he
          exact ⟨ga, cur, rfl, h1, hp_chg hg hC4 (by simp; omega), h2⟩)
        have HS4 := Lib.hid (HS3.out.chg hC4)
        clear hE hrr hr4 hG4 hC4 HC3 HX3 HR3 HO3 HS3 HG3
        go_wp2_with fail
        go_roundg (m + 1 - p')
        case measure => rw [HK.out]; omega
        case rel => exact ⟨p', K, cl', rfl, hpm, hcl', by omega, HG4.out, HC4.out, HX4.out, HR4.out, HO4.out, HS4.out, HE⟩
      · have hE := hrr.out
        rw [hr4] at hE
        have HE := Lib.hid hE
        have HC4 := Lib.hid (HC3.out.trans hC4)
        have HQ := Lib.hid hq
        clear hE hrr hr4 hC4 hq
        obtain rfl := hpe
        go_wp2_with fail
        exact ⟨rfl, by rw [HE.out]; exact ⟨HC4.out, .inr ⟨HQ.out, rfl⟩⟩⟩
    have t1 : ((x : Int) == 33) = false := by simp; omega
    have hr := hrr.out
    rw [partsG, if_neg d1, ← HXX.out] at hr
    by_cases d3 : x = 44
    case neg =>
      have t2 : ((x : Int) == 44) = false := by simp; omega
      rw [if_neg d3, if_pos d2] at hr
      have HE := Lib.hid hr
      clear hr hrr d2 d3
      go_wp2_with fail
      refine (gmust_no 4 _).mono ?_
      rintro e w4 ⟨hpe, rfl⟩
      obtain rfl := hpe
      go_wp2_with fail
      exact ⟨rfl, by rw [HE.out]; exact ⟨HC3.out, .inr ⟨by decide, rfl⟩⟩⟩
    have t2 : ((x : Int) == 44) = true := by simp; omega
    rw [if_pos d3] at hr
    have HE := Lib.hid hr
    have k0 := hp_cell (j := 0) HX3.out rfl
    have k1 := hp_cell (j := 1) HX3.out rfl
    have k2 := hp_cell (j := 2) HX3.out rfl
    clear hr hrr d2 d3
    go_wp2_with fail
    refine (frame_prog g m (p + 1) b HBT.out hsm W H HZ.out ga (4 * (W * H)) cap q1 N1 rfl hn hc Z1 cz1 cl hcl hN1 w3 HG3.out HS3.out (by omega) HO3.out).mono ?_
    rw [← HE.out]
    rintro e w4 ⟨hC4, ⟨h0, rfl, hO4⟩ | ⟨h0, hpe⟩⟩
    · have hX4 := hp_chg HX3.out hC4 (by simp; omega)
      have hR4 := hp_chg HR3.out hC4 (by simp; omega)
      have j0 := hp_cell (j := 0) hX4 rfl
      have j1 := hp_cell (j := 1) hX4 rfl
      have j2 := hp_cell (j := 2) hX4 rfl
      have l0 := hp_cell (j := 0) hR4 rfl
      have l1 := hp_cell (j := 1) hR4 rfl
      have l2 := hp_cell (j := 2) hR4 rfl
      have lf := hp_froz hR4
      have HC4 : Hid (Chg [g] w w4) := Lib.hid (HC3.out.trans2 hC4 (fun k hk => by simp at hk; rcases hk with rfl | rfl; exact .inl (by simp); exact .inr (by omega)))
      have HO4 := Lib.hid hO4
      have H0' := Lib.hid h0
      have hgaw : w.heap.size ≠ ga := by omega
      clear hC4 hO4 h0 hX4 hR4 k0 k1 k2 c0
      go_wp2_with fail
      refine bodyPost_ret (v := .agg #[.int .i64 (W : Nat), .int .i64 (H : Nat), .slice (some ⟨ga, 0, none⟩) (4 * (W * H)) cap]) (by rw [results_cell1 rfl]; go_simp) rfl ?_
      refine ⟨((HC4.out.set (g := w.heap.size) (.inr (Nat.le_refl _)) 0 _).set (g := w.heap.size) (.inr (Nat.le_refl _)) 1 _).set (g := w.heap.size) (.inr (Nat.le_refl _)) 2 _, .inl ⟨H0'.out, ga, cap, by omega, hn, hc, rfl, fun h9 => ?_⟩⟩
      obtain ⟨k, cur, he, h1, hg, h2⟩ := HO4.out h9
      cases he
      exact ⟨ga, cur, rfl, h1, hp_oth (hp_oth (hp_oth hg (fun e => hgaw e.symm)) (fun e => hgaw e.symm)) (fun e => hgaw e.symm), h2⟩
    · have HC4 : Hid (Chg [g] w w4) := Lib.hid (HC3.out.trans2 hC4 (fun k hk => by simp at hk; rcases hk with rfl | rfl; exact .inl (by simp); exact .inr (by omega)))
      have H0' := Lib.hid h0
      clear hC4 h0 k0 k1 k2 c0
      obtain rfl := hpe
      go_wp2_with fail
      exact ⟨rfl, HC4.out, .inr ⟨H0'.out, rfl⟩⟩
end Go.Proofs.Ytkjlejkcedemlaa
