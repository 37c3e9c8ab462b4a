/- bmpread: rows. bmpread: the reader's cells while the head is read; what its functions do to them. -/
import Derived.Test.YthgafdbdmemkhaaDoorM15
import Derived.Deep.DeepCutAuto
namespace Go.Proofs.YthgafdbdmemkhaaDoor
set_option maxRecDepth 100000
set_option linter.unusedVariables false
open Go.ChangeShapes Go.WideShapes Go.ChangeAt Go.RowKit

/-- A reader that draws rows: its cells. -/
structure RwC (g ga W H n4 cap' bits off m cap : Nat) (down : Bool) (A AC : Option Addr) (cc : Nat) (L : List P4) (f : Nat → Nat) (cs : Array Value) : Prop where
  q0 : cs[0]? = some (.slice A m cap)
  q1 : cs[1]? = some (.int .i64 (off : Nat))
  q3 : cs[3]? = some (.int .i64 (W : Nat))
  q4 : cs[4]? = some (.int .i64 (H : Nat))
  q5 : cs[5]? = some (.bool down)
  q6 : cs[6]? = some (.int .i64 (bits : Nat))
  q9 : cs[9]? = some (.int .u32 (f 0 : Nat))
  q10 : cs[10]? = some (.int .u32 (f 1 : Nat))
  q11 : cs[11]? = some (.int .u32 (f 2 : Nat))
  q12 : cs[12]? = some (.int .u32 (f 3 : Nat))
  q13 : cs[13]? = some (.slice AC L.length cc)
  q14 : cs[14]? = some (.int .i64 (W : Nat))
  q15 : cs[15]? = some (.int .i64 (H : Nat))
  q16 : cs[16]? = some (.slice (some ⟨ga, 0, none⟩) n4 cap')
set_option maxRecDepth 100000 in
set_option maxHeartbeats 2000000 in
theorem rows_short (g ga W H n4 cap' bits off m cap : Nat) (down : Bool) (A AC : Option Addr) (cc : Nat) (L : List P4) (f : Nat → Nat) (cs : Array Value) (h : RwC g ga W H n4 cap' bits off m cap down A AC cc L f cs) (hb : bits6 bits) (hW : W ≤ 256) (hH : H ≤ 256) (hm : m ≤ 262144) (hoff : off ≤ m) (hs : m - off < bmWide W bits * H) (w : World) (hR : w.heap[g]? = some (.cells cs 71 (0, 0))) :
    Calls Tryd.prog 47 #[.pointer (some ⟨g, 0, none⟩)] w fun e w' => PanB 2 e ∧ Chg [g, ga] w w' := by
  have c0 := hp_cell (j := 0) hR h.q0
  have c1 := hp_cell (j := 1) hR h.q1
  have c3 := hp_cell (j := 3) hR h.q3
  have c4 := hp_cell (j := 4) hR h.q4
  have c6 := hp_cell (j := 6) hR h.q6
  obtain ⟨V, hV⟩ : ∃ V, V = bmWide W bits := ⟨_, rfl⟩
  have hV1 := (wide_le (bits := bits) hW hb).1
  have hN1 := (wide_le (bits := bits) hW hb).2
  rw [← hV] at hs hV1
  obtain ⟨N, hN⟩ : ∃ N, N = W * bits := ⟨_, rfl⟩
  obtain ⟨M, hM⟩ : ∃ M, M = V * H := ⟨_, rfl⟩
  have hM1 : V * H ≤ 1024 * 256 := Nat.mul_le_mul hV1 hH
  rw [← hM] at hs hM1
  rw [← hN] at hN1
  have hVN : V = (N + 31) / 32 * 4 := by rw [hV, hN]; rfl
  have m1 : (W : Int) * (bits : Int) = (N : Int) := by rw [hN]; simp
  have m3 : (V : Int) * (H : Int) = (M : Int) := by rw [hM]; simp
  have m4 : decide ((M : Int) ≤ (m : Int) - (off : Int)) = false := by simp; omega
  have HVN := Lib.hid hVN
  clear h hR hV hN hM hVN
  go_enter Tryd.func47, Tryd.ntmps47
  go_upto_region 0 with fail
  go_quiet (fail)
  go_upto_region 1 with fail
  have e2 : ((N : Int) + 31) / 32 * 4 = (V : Int) := by have := HVN.out; omega
  rw [e2]
  obtain ⟨w1, hw1⟩ : ∃ w1, w1 = w.drewN nq := ⟨_, rfl⟩
  have hB1 : Chg [g, ga] w w1 := hw1 ▸ (Chg.refl _ w).drewN nq
  have hb1 : Below w.heap.size w w1 := hw1 ▸ bel_drewN w nq
  have d0 := cell_bel hb1 c0
  have d1 := cell_bel hb1 c1
  have d4 := cell_bel hb1 c4
  rw [← hw1]
  clear c0 c1 c3 c4 c6 m1 e2 hw1 hb1
  go_still_tail 17, (by kernel_rfl)
  repeat still_step
  try refine wpStill_nil ?_
  change wpList _ _ _ _ _ w1.drew
  go_wp2_with fail
  rw [m4]
  refine (bmust_no 2 _).mono ?_
  rintro e w2 ⟨hp, rfl⟩
  obtain rfl := hp
  go_wp2_with fail
  exact ⟨rfl, rfl, hB1.drew⟩
theorem pixel_S {g ga m cap n4 : Nat} {A : Option Addr} {d f : Nat → Nat} {AC : Option Addr} {cc : Nat} {L : List P4} {w0 : World} {bits : Nat} (hb : bits6 bits) (h : PxS g m cap A d f bits AC cc L w0) (hd : ∀ i, d i < 256) (hf : ∀ i, f i < 4294967296) (hk : bits = 16 ∨ bits = 32 → ∀ j, j < 4 → (runM (f j)).2.2 = true ∨ j = 3) (hmc : m ≤ cap) (hcap : cap ≤ maxLen) (hL : L.length ≤ 256) (hm : m ≤ 262144) (hga : g ≠ ga) (h0 : 0 ≠ ga) (hA : ∀ a, A = some a → a.block ≠ ga) (hAC : ∀ a, AC = some a → a.block ≠ ga) (p i : Nat) (hi : i ≤ 256) (hp : p + (i * bits + bits + 7) / 8 ≤ m) (P : P4) (hP : bmPx d bits f L p i = some P) (ck cn : Nat → Nat) (w : World) (hX : PixS w0 ga n4 ck cn w) :
    Calls Tryd.prog 61 #[.pointer (some ⟨g, 0, none⟩), .int .i64 (p : Nat), .int .i64 (i : Nat)] w fun e w' => e = .returned (.agg #[.int .u16 (P.1 : Nat), .int .u16 (P.2.1 : Nat), .int .u16 (P.2.2.1 : Nat), .int .u16 (P.2.2.2 : Nat)]) ∧ Below w.heap.size w w' := by
  refine (pixel_any hb (h.chg hX.chg (by simpa using hga) (by simpa using h0) (fun a ha => by simpa using hA a ha) (fun a ha => by simpa using hAC a ha)) hd hf hk hmc hcap hL hm p i hi hp).mono ?_
  rintro e w' ⟨hB, ⟨hn, _⟩ | ⟨q, hq, he⟩⟩
  · rw [hP] at hn
    cases hn
  · rw [hP] at hq
    cases hq
    exact ⟨he, hB⟩
set_option maxRecDepth 100000 in
set_option maxHeartbeats 4000000 in
theorem rows_true (g ga W H n4 cap' bits off m cap : Nat) (A AC : Option Addr) (cc : Nat) (L : List P4) (d f : Nat → Nat) (cs : Array Value) (h : RwC g ga W H n4 cap' bits off m cap true A AC cc L f cs) (hb : bits6 bits) (hW : W ≤ 256) (hH : H ≤ 256) (hm : m ≤ 262144) (hoff : off ≤ m) (hs : ¬m - off < bmWide W bits * H) (hd : ∀ i, d i < 256) (hf : ∀ i, f i < 4294967296) (hk : bits = 16 ∨ bits = 32 → ∀ j, j < 4 → (runM (f j)).2.2 = true ∨ j = 3) (hmc : m ≤ cap) (hcap : cap ≤ maxLen) (hL : L.length ≤ 256) (hga : g ≠ ga) (h0 : 0 ≠ ga) (hA : ∀ a, A = some a → a.block ≠ ga) (hAC : ∀ a, AC = some a → a.block ≠ ga) (hn : n4 ≤ cap') (hmax : cap' ≤ maxLen) (hmb : mayB (W : Nat) (H : Nat) n4 = true) (w : World) (hR : w.heap[g]? = some (.cells cs 71 (0, 0))) (hB : Byt w A m d) (hS : Sl w (.slice AC L.length cc) 4 L.length (cellsP L)) (hT : TabW w) (c0 : Nat → Nat) (hO : Own 0 w (some ⟨ga, 0, none⟩) n4 c0) (R : (Nat → Nat) × Nat) (hRr : R = rowR (pxR d W bits off f L) (posR W H true) (W * H) 0 c0) :
    Calls Tryd.prog 47 #[.pointer (some ⟨g, 0, none⟩)] w fun e w' => Chg [ga] w w' ∧ (R.2 ≠ 0 ∧ PanB R.2 e ∨ R.2 = 0 ∧ e = .returned (.tuple #[]) ∧ Own 0 w' (some ⟨ga, 0, none⟩) n4 R.1) := by
  have c0' := hp_cell (j := 0) hR h.q0
  have c1 := hp_cell (j := 1) hR h.q1
  have c3 := hp_cell (j := 3) hR h.q3
  have c4 := hp_cell (j := 4) hR h.q4
  have c5 := hp_cell (j := 5) hR h.q5
  have c6 := hp_cell (j := 6) hR h.q6
  have c14 := hp_cell (j := 14) hR h.q14
  have c15 := hp_cell (j := 15) hR h.q15
  have c16 := hp_cell (j := 16) hR h.q16
  have HPX : Hid (PxS g m cap A d f bits AC cc L w) := Lib.hid ⟨c0', c6, hp_cell (j := 9) hR h.q9, hp_cell (j := 10) hR h.q10, hp_cell (j := 11) hR h.q11, hp_cell (j := 12) hR h.q12, hp_cell (j := 13) hR h.q13, hB, hS, hT⟩
  have HCS := Lib.hid (And.intro c1 (And.intro c3 (And.intro c4 (And.intro c5 (And.intro c14 (And.intro c15 c16))))))
  obtain ⟨V, hV⟩ : ∃ V, V = bmWide W bits := ⟨_, rfl⟩
  have hV1 := (wide_le (bits := bits) hW hb).1
  have hN1 := (wide_le (bits := bits) hW hb).2
  have HVB := Lib.hid hV
  rw [← hV] at hs hV1
  have HRI : Hid (∀ k, k < H → off + k * V + V ≤ m) := Lib.hid (fun k hk => row_in hs hk hoff)
  obtain ⟨N, hN⟩ : ∃ N, N = W * bits := ⟨_, rfl⟩
  obtain ⟨M, hM⟩ : ∃ M, M = V * H := ⟨_, rfl⟩
  have hM1 : V * H ≤ 1024 * 256 := Nat.mul_le_mul hV1 hH
  rw [← hM] at hs hM1
  rw [← hN] at hN1
  have hVN : V = (N + 31) / 32 * 4 := by rw [hV, hN]; rfl
  have m1 : (W : Int) * (bits : Int) = (N : Int) := by rw [hN]; simp
  have m3 : (V : Int) * (H : Int) = (M : Int) := by rw [hM]; simp
  have m4 : decide ((M : Int) ≤ (m : Int) - (off : Int)) = true := by simp; omega
  have HVN := Lib.hid hVN
  have HB6 := Lib.hid hb
  have HD := Lib.hid hd
  have HF := Lib.hid hf
  have HK := Lib.hid hk
  have HA := Lib.hid hA
  have HAC := Lib.hid hAC
  have HMB := Lib.hid hmb
  have HO := Lib.hid hO
  have HR := Lib.hid hRr
  have hg1 : ¬g = ga := hga
  clear h hR hV hN hM hVN hb hd hf hk hA hAC hmb hO hRr hB hS hT
  go_enter Tryd.func47, Tryd.ntmps47
  go_upto_region 0 with fail
  go_quiet (fail)
  go_upto_region 1 with fail
  have e2 : ((N : Int) + 31) / 32 * 4 = (V : Int) := by have := HVN.out; omega
  rw [e2]
  obtain ⟨w1, hw1⟩ : ∃ w1, w1 = w.drewN nq := ⟨_, rfl⟩
  have hB1 : Chg [ga] w w1 := hw1 ▸ (Chg.refl _ w).drewN nq
  have hb1 : Below w.heap.size w w1 := hw1 ▸ bel_drewN w nq
  have d0 := cell_bel hb1 c0'
  have d1 := cell_bel hb1 c1
  have d4 := cell_bel hb1 c4
  have HO1 := Lib.hid (HO.out.below hb1)
  rw [← hw1]
  clear c0' c1 c3 c4 c5 c6 c14 c15 c16 m1 e2 hw1 hb1 HO
  go_still_tail 17, (by kernel_rfl)
  repeat still_step
  try refine wpStill_nil ?_
  change wpList _ _ _ _ _ w1.drew
  go_wp2_with fail
  rw [m4]
  refine (bmust_yes 2 _).mono ?_
  rintro e w2 ⟨rfl, rfl⟩
  have HO2 := Lib.hid (HO1.out.below ((Below.refl _ w1).drew))
  have HC2 := Lib.hid hB1.drew
  clear d0 d1 d4 hB1 HO1 m3 m4 hs
  generalize w1.drew = w2 at *
  have c4 : w2.cell? ⟨g, 4, none⟩ = some (.int .i64 (H : Nat)) := cell_chg HC2.out (by simpa using hga) HCS.out.2.2.1
  go_wp2_with fail
  go_loopw [40] (fun q wr => ∃ (k : Nat) (ck : Nat → Nat), k ≤ H ∧ q = .int .i64 (k : Nat) ∧ Chg [ga] w wr ∧ Own 0 wr (some ⟨ga, 0, none⟩) n4 ck ∧ Hid (R = rowR (pxR d W bits off f L) (posR W H true) (W * (H - k)) (k * W) ck)) (fun q _ => H - (intOf q).toNat)
  case atStart => exact ⟨0, c0, by omega, rfl, HC2.out, HO2.out, by rw [Nat.sub_zero, Nat.zero_mul]; exact HR⟩
  case round =>
    clear HC2 HO2 HR c4
    obtain ⟨k, ck, hkH, rfl, hC, hO, hE⟩ := hrel
    have HC := Lib.hid hC
    have HO := Lib.hid hO
    have c3 : wr.cell? ⟨g, 3, none⟩ = some (.int .i64 (W : Nat)) := cell_chg hC (by simpa using hga) HCS.out.2.1
    have c4 : wr.cell? ⟨g, 4, none⟩ = some (.int .i64 (H : Nat)) := cell_chg hC (by simpa using hga) HCS.out.2.2.1
    have c5 : wr.cell? ⟨g, 5, none⟩ = some (.bool true) := cell_chg hC (by simpa using hga) HCS.out.2.2.2.1
    clear hC hO
    by_cases hlt : k < H
    · obtain ⟨Y, hY⟩ : ∃ Y, Y = bmY H true k := ⟨_, rfl⟩
      have hYl : Y < H := by rw [hY]; simp [bmY]; omega
      have hYI : (k : Int) = (Y : Int) := by rw [hY]; simp [bmY]; try omega
      have HY := Lib.hid hY
      have HYI := Lib.hid hYI
      have z1 : IntKind.i64.wrap ((H : Int) - 1) = (H : Int) - 1 := IntWalk.i64_in _ (by omega)
      have z2 : IntKind.i64.wrap ((H : Int) - 1 - (k : Int)) = (H : Int) - 1 - (k : Int) := IntWalk.i64_in _ (by omega)
      have hri := HRI.out k hlt
      obtain ⟨T, hT⟩ : ∃ T, T = k * V := ⟨_, rfl⟩
      rw [← hT] at hri
      obtain ⟨P, hP⟩ : ∃ P, P = off + T := ⟨_, rfl⟩
      have HT := Lib.hid hT
      have HPE := Lib.hid hP
      have hPm : P + V ≤ m := by omega
      have kv : (k : Int) * (V : Int) = (T : Int) := by rw [hT]; simp
      have HWW : Hid (IntKind.i64.wrap ((off : Int) + IntKind.i64.wrap (T : Int)) = (P : Int)) := Lib.hid (by rw [IntWalk.i64_in (T : Int) (by omega), IntWalk.i64_in _ (by omega)]; omega)
      have hE2 := hE.out
      have hspl : W * (H - k) = W * (H - (k + 1)) + W := by rw [show H - k = (H - (k + 1)) + 1 by omega, Nat.mul_add, Nat.mul_one]
      rw [hspl] at hE2
      have HE := Lib.hid hE2
      clear hE hE2 hspl hY hYI hT hP hri
      go_wp2_with fail
      go_loopw [59] (fun q wx => ∃ (i : Nat) (cx : Nat → Nat), i ≤ W ∧ q = .int .i64 (i : Nat) ∧ Chg [ga] w wx ∧ Own 0 wx (some ⟨ga, 0, none⟩) n4 cx ∧ Hid (R = rowR (pxR d W bits off f L) (posR W H true) (W * (H - (k + 1)) + (W - i)) (k * W + i) cx)) (fun q _ => W - (intOf q).toNat)
      case atStart => exact ⟨0, ck, by omega, rfl, HC.out, HO.out, HE⟩
      case round =>
        clear HC HO HE c3 c4 c5
        obtain ⟨i, cx, hiW, rfl, hC, hO, hE⟩ := hrel
        by_cases hi : i < W
        · have hx := hE.out
          rw [show W * (H - (k + 1)) + (W - i) = (W * (H - (k + 1)) + (W - (i + 1))) + 1 by omega] at hx
          have hpx := pxR_at (d := d) (bits := bits) (off := off) (f := f) (L := L) (k := k) hi
          rw [← HVB.out, ← HT.out, ← HPE.out] at hpx
          have hpos := posR_at (H := H) (down := true) (k := k) hi
          rw [← HY.out] at hpos
          have hwi : P + (i * bits + bits + 7) / 8 ≤ m := by
            have := wide_in HB6.out hi
            rw [← HVB.out] at this
            omega
          have HWI := Lib.hid hwi
          have e1 := cell_chg hC (by simpa using hga) HCS.out.1
          have e14 := cell_chg hC (by simpa using hga) HCS.out.2.2.2.2.1
          have e15 := cell_chg hC (by simpa using hga) HCS.out.2.2.2.2.2.1
          have e16 := cell_chg hC (by simpa using hga) HCS.out.2.2.2.2.2.2
          have HC := Lib.hid hC
          have HO := Lib.hid hO
          have hge : ¬g = ga := hga
          clear hC hO hwi hE
          cases hq : bmPx d bits f L P i with
          | none =>
            rw [hq] at hpx
            rw [rowR_no hpx] at hx
            have HX := Lib.hid hx
            have HQ := Lib.hid hq
            clear hx hpx hpos hq
            go_wp2_with fail
            go_upto_region 11 with fail
            refine wp_region_held_drew (S := (fun w' => w'.cell? ⟨g, 1, none⟩ = some (.int .i64 (off : Nat)) ∧ w'.cell? ⟨g, 14, none⟩ = some (.int .i64 (W : Nat)) ∧ w'.cell? ⟨g, 15, none⟩ = some (.int .i64 (H : Nat)) ∧ w'.cell? ⟨g, 16, none⟩ = some (.slice (some ⟨ga, 0, none⟩) n4 cap'))) (by kernel_rfl) ⟨e1, e14, e15, e16⟩ (fun hHeld => ?_)
            refine wpAnyH_take (i := 0) (oi := ⟨some 62, _, _, _, _, _⟩) (v := ?v0) rfl (by kernel_rfl) (by kernel_rfl) (by kernel_rfl) (fun _ _ _ h => h) (Or.inl ⟨by rfl, ?y0⟩) hHeld ?r0
            case y0 => ((intro w hSw); (try dsimp only at hSw); go_split_ands; go_simp; try with_reducible rfl)
            try simp only [Act.put, List.setIfInBounds_toArray, List.set_cons_zero, List.set_cons_succ]
            refine wpAnyH_take (i := 1) (oi := ⟨some 63, _, _, _, _, _⟩) (v := ?v1) rfl (by kernel_rfl) (by kernel_rfl) (by kernel_rfl) (fun _ _ _ h => h) (Or.inl ⟨by rfl, ?y1⟩) hHeld ?r1
            case y1 => ((intro w hSw); (try dsimp only at hSw); go_split_ands; go_simp; try with_reducible rfl)
            try simp only [Act.put, List.setIfInBounds_toArray, List.set_cons_zero, List.set_cons_succ]
            refine wpAnyH_take (i := 2) (oi := ⟨some 64, _, _, _, _, _⟩) (v := ?v2) rfl (by kernel_rfl) (by kernel_rfl) (by kernel_rfl) (fun _ _ _ h => h) (Or.inl ⟨by rfl, ?y2⟩) hHeld ?r2
            case y2 => ((intro w hSw); (try dsimp only at hSw); go_split_ands; go_simp; try with_reducible rfl)
            try simp only [Act.put, List.setIfInBounds_toArray, List.set_cons_zero, List.set_cons_succ]
            refine wpAnyH_take (i := 3) (oi := ⟨some 65, _, _, _, _, _⟩) (v := ?v3) rfl (by kernel_rfl) (by kernel_rfl) (by kernel_rfl) (fun _ _ _ h => h) (Or.inl ⟨by rfl, ?y3⟩) hHeld ?r3
            case y3 => ((intro w hSw); (try dsimp only at hSw); go_split_ands; go_simp; try with_reducible rfl)
            try simp only [Act.put, List.setIfInBounds_toArray, List.set_cons_zero, List.set_cons_succ]
            refine wpAnyH_take (i := 4) (oi := ⟨some 66, _, _, _, _, _⟩) (v := ?v4) rfl (by kernel_rfl) (by kernel_rfl) (by kernel_rfl) (fun _ _ _ h => h) (Or.inl ⟨by rfl, ?y4⟩) hHeld ?r4
            case y4 => ((intro w hSw); (try dsimp only at hSw); go_split_ands; go_simp; try with_reducible rfl)
            try simp only [Act.put, List.setIfInBounds_toArray, List.set_cons_zero, List.set_cons_succ]
            refine wpAnyH_take (i := 5) (oi := ⟨some 67, _, _, _, _, _⟩) (v := ?v5) rfl (by kernel_rfl) (by kernel_rfl) (by kernel_rfl) (fun _ _ _ h => h) (Or.inl ⟨by rfl, ?y5⟩) hHeld ?r5
            case y5 => ((intro w hSw); (try dsimp only at hSw); go_split_ands; go_simp; try with_reducible rfl)
            try simp only [Act.put, List.setIfInBounds_toArray, List.set_cons_zero, List.set_cons_succ]
            refine wpAnyH_take (i := 6) (oi := ⟨some 68, _, _, _, _, _⟩) (v := ?v6) rfl (by kernel_rfl) (by kernel_rfl) (by kernel_rfl) (fun _ _ _ h => h) (Or.inl ⟨by rfl, ?y6⟩) hHeld ?r6
            case y6 => ((intro w hSw); (try dsimp only at hSw); go_split_ands; go_simp; try with_reducible rfl)
            try simp only [Act.put, List.setIfInBounds_toArray, List.set_cons_zero, List.set_cons_succ]
            refine wpAnyH_take (i := 7) (oi := ⟨some 69, _, _, _, _, _⟩) (v := ?v7) rfl (by kernel_rfl) (by kernel_rfl) (by kernel_rfl) (fun _ _ _ h => h) (Or.inl ⟨by rfl, ?y7⟩) hHeld ?r7
            case y7 => ((intro w hSw); (try dsimp only at hSw); go_split_ands; go_simp; try with_reducible rfl)
            try simp only [Act.put, List.setIfInBounds_toArray, List.set_cons_zero, List.set_cons_succ]
            refine wpAnyH_take (i := 8) (oi := ⟨some 70, _, _, _, _, _⟩) (v := ?v8) rfl (by kernel_rfl) (by kernel_rfl) (by kernel_rfl) (fun _ _ _ h => h) (Or.inl ⟨by rfl, ?y8⟩) hHeld ?r8
            case y8 => ((intro w hSw); (try dsimp only at hSw); go_split_ands; go_simp; try with_reducible rfl)
            try simp only [Act.put, List.setIfInBounds_toArray, List.set_cons_zero, List.set_cons_succ]
            refine wpAnyH_take (i := 9) (oi := ⟨some 71, _, _, _, _, _⟩) (v := ?v9) rfl (by kernel_rfl) (by kernel_rfl) (by kernel_rfl) (fun _ _ _ h => h) (Or.inl ⟨by rfl, ?y9⟩) hHeld ?r9
            case y9 => ((intro w hSw); (try dsimp only at hSw); go_split_ands; go_simp; try with_reducible rfl)
            try simp only [Act.put, List.setIfInBounds_toArray, List.set_cons_zero, List.set_cons_succ]
            refine wpAnyH_take (i := 10) (oi := ⟨some 72, _, _, _, _, _⟩) (v := ?v10) rfl (by kernel_rfl) (by kernel_rfl) (by kernel_rfl) (fun _ _ _ h => h) (Or.inl ⟨by rfl, ?y10⟩) hHeld ?r10
            case y10 => ((intro w hSw); (try dsimp only at hSw); go_split_ands; go_simp; try with_reducible rfl)
            try simp only [Act.put, List.setIfInBounds_toArray, List.set_cons_zero, List.set_cons_succ]
            refine wpAnyH_take (i := 11) (oi := ⟨some 73, _, _, _, _, _⟩) (v := ?v11) rfl (by kernel_rfl) (by kernel_rfl) (by kernel_rfl) (fun _ _ _ h => h) (Or.inl ⟨by rfl, ?y11⟩) hHeld ?r11
            case y11 => ((intro w hSw); (try dsimp only at hSw); go_split_ands; go_simp; try with_reducible rfl)
            try simp only [Act.put, List.setIfInBounds_toArray, List.set_cons_zero, List.set_cons_succ]
            refine wpAnyH_take (i := 12) (oi := ⟨some 74, _, _, _, _, _⟩) (v := ?v12) rfl (by kernel_rfl) (by kernel_rfl) (by kernel_rfl) (fun _ _ _ h => h) (Or.inl ⟨by rfl, ?y12⟩) hHeld ?r12
            case y12 => ((intro w hSw); (try dsimp only at hSw); go_split_ands; go_simp; try with_reducible rfl)
            try simp only [Act.put, List.setIfInBounds_toArray, List.set_cons_zero, List.set_cons_succ]
            refine wpAnyH_take (i := 13) (oi := ⟨some 75, _, _, _, _, _⟩) (v := ?v13) rfl (by kernel_rfl) (by kernel_rfl) (by kernel_rfl) (fun _ _ _ h => h) (Or.inl ⟨by rfl, ?y13⟩) hHeld ?r13
            case y13 => ((intro w hSw); (try dsimp only at hSw); go_split_ands; go_simp; try with_reducible rfl)
            try simp only [Act.put, List.setIfInBounds_toArray, List.set_cons_zero, List.set_cons_succ]
            refine wpAnyH_take (i := 14) (oi := ⟨some 76, _, _, _, _, _⟩) (v := ?v14) rfl (by kernel_rfl) (by kernel_rfl) (by kernel_rfl) (fun _ _ _ h => h) (Or.inl ⟨by rfl, ?y14⟩) hHeld ?r14
            case y14 => ((intro w hSw); (try dsimp only at hSw); go_split_ands; go_simp; try with_reducible rfl)
            try simp only [Act.put, List.setIfInBounds_toArray, List.set_cons_zero, List.set_cons_succ]
            refine wpAnyH_take (i := 15) (oi := ⟨some 77, _, _, _, _, _⟩) (v := ?v15) rfl (by kernel_rfl) (by kernel_rfl) (by kernel_rfl) (fun _ _ _ h => h) (Or.inl ⟨by rfl, ?y15⟩) hHeld ?r15
            case y15 => ((intro w hSw); (try dsimp only at hSw); go_split_ands; go_simp; try with_reducible rfl)
            try simp only [Act.put, List.setIfInBounds_toArray, List.set_cons_zero, List.set_cons_succ]
            refine wpAnyH_ready (rs := [16]) (by kernel_rfl) (by simp) (AllReadyH.cons (o := ⟨some 78, _, _, _, _, _⟩) rfl (fun K hK => ?_) AllReadyH.nil)
            go_simp
            rw [HWW.out]
            refine (pixel_any HB6.out (HPX.out.chg (HC.out.drew) (by simpa using hga) (by simpa using h0) (fun a ha => by simpa using HA.out a ha) (fun a ha => by simpa using HAC.out a ha)) HD.out HF.out HK.out hmc hcap hL hm P i (by omega) HWI.out).mono ?_
            rintro e w9 ⟨hB, ⟨hn9, hp9⟩ | ⟨q9, hq9, he9⟩⟩
            · obtain rfl := hp9
              dsimp +zetaDelta only [Exit.inBlock, Exit.then, bodyPost]
              exact ⟨rfl, (HC.out.drew).trans (Chg.of_below hB), .inl ⟨by rw [HX.out]; simp, by rw [HX.out]; rfl⟩⟩
            · rw [HQ.out] at hq9
              cases hq9
          | some q =>
            rw [hq] at hpx
            rw [rowR_yes hpx, hpos] at hx
            have HX := Lib.hid hx
            have HQ := Lib.hid hq
            have HIN := Lib.hid (inB_xy HMB.out hi hYl)
            have hPX : PixS w ga n4 cx (setC cx (Y * W + i) q) wr := ⟨HC.out, .inl HO.out⟩
            have hPXd := hPX.below ((Below.refl _ wr).drew)
            clear hx hpx hpos hq hPX HO
            go_wp2_with fail
            go_upto_region 11 with fail
            go_region_held3 (fun w' => w'.cell? ⟨g, 1, none⟩ = some (.int .i64 (off : Nat)) ∧ w'.cell? ⟨g, 14, none⟩ = some (.int .i64 (W : Nat)) ∧ w'.cell? ⟨g, 15, none⟩ = some (.int .i64 (H : Nat)) ∧ w'.cell? ⟨g, 16, none⟩ = some (.slice (some ⟨ga, 0, none⟩) n4 cap') ∧ PixS w ga n4 cx (setC cx (Y * W + i) q) w')
              (first | go_keep | (go_split_ands; refine ⟨?_, ?_, ?_, ?_, ?_⟩ <;> first | with_reducible assumption | (with_reducible refine cell_bel hB ?_; with_reducible assumption) | (with_reducible refine PixS.below ?_ hB; with_reducible assumption)))
              (first | (go_at_call 61; rw [HWW.out]; refine (pixel_S (ga := ga) (n4 := n4) HB6.out HPX.out HD.out HF.out HK.out hmc hcap hL hm hga h0 HA.out HAC.out P i (by omega) HWI.out q HQ.out cx (setC cx (Y * W + i) q) _ (by first | with_reducible assumption | (go_split_ands; with_reducible assumption))).mono ?_; rintro e w9 ⟨rfl, hB⟩) | (go_at_call 60; refine (set_S W H n4 cap' i Y ga q hn hmax hW hH HIN.out w cx _ _ rfl HYI.out _ (by first | with_reducible assumption | (go_split_ands; with_reducible assumption))).mono ?_; rintro e w10 ⟨rfl, hP9, hO9, hK9⟩; go_split_ands; have hq0 := cell_chg hK9 (p := ⟨g, 1, none⟩) (by simp; omega) (by with_reducible assumption); have hq1 := cell_chg hK9 (p := ⟨g, 14, none⟩) (by simp; omega) (by with_reducible assumption); have hq2 := cell_chg hK9 (p := ⟨g, 15, none⟩) (by simp; omega) (by with_reducible assumption); have hq3 := cell_chg hK9 (p := ⟨g, 16, none⟩) (by simp; omega) (by with_reducible assumption); clear hK9) | fail)
            have hch := (show PixS w ga n4 cx (setC cx (Y * W + i) q) w10 by first | with_reducible assumption | (go_split_ands; with_reducible assumption)).chg
            have HO10 := Lib.hid hO9
            have HC10 := Lib.hid hch
            clear hO9 hch hB hPXd
            go_wp2_with fail
            go_roundw
            case rel => exact ⟨i + 1, _, hi, by go_num, HC10.out, HO10.out, HX⟩
            case measure => simp [intOf]; omega
        · obtain rfl : i = W := by omega
          have hx := hE.out
          rw [Nat.sub_self, Nat.add_zero] at hx
          have HX := Lib.hid hx
          have HC := Lib.hid hC
          have HO := Lib.hid hO
          have hl : k * i + i = (k + 1) * i := by rw [Nat.add_mul, Nat.one_mul]
          have HL := Lib.hid hl
          clear hC hO hx hE hl
          go_wp2_with fail
          go_roundw
          case rel => exact ⟨k + 1, cx, hlt, by go_num, HC.out, HO.out, HL.out ▸ HX⟩
          case measure => simp [intOf]; omega
    · obtain rfl : k = H := by omega
      have hx := hE.out
      rw [Nat.sub_self, Nat.mul_zero, rowR_0] at hx
      have HX := Lib.hid hx
      clear hx hE
      go_wp2_with fail
      go_end0
      rw [HX.out]
      exact ⟨HC.out, .inr ⟨rfl, rfl, HO.out⟩⟩
set_option maxRecDepth 100000 in
set_option maxHeartbeats 4000000 in
theorem rows_false (g ga W H n4 cap' bits off m cap : Nat) (A AC : Option Addr) (cc : Nat) (L : List P4) (d f : Nat → Nat) (cs : Array Value) (h : RwC g ga W H n4 cap' bits off m cap false A AC cc L f cs) (hb : bits6 bits) (hW : W ≤ 256) (hH : H ≤ 256) (hm : m ≤ 262144) (hoff : off ≤ m) (hs : ¬m - off < bmWide W bits * H) (hd : ∀ i, d i < 256) (hf : ∀ i, f i < 4294967296) (hk : bits = 16 ∨ bits = 32 → ∀ j, j < 4 → (runM (f j)).2.2 = true ∨ j = 3) (hmc : m ≤ cap) (hcap : cap ≤ maxLen) (hL : L.length ≤ 256) (hga : g ≠ ga) (h0 : 0 ≠ ga) (hA : ∀ a, A = some a → a.block ≠ ga) (hAC : ∀ a, AC = some a → a.block ≠ ga) (hn : n4 ≤ cap') (hmax : cap' ≤ maxLen) (hmb : mayB (W : Nat) (H : Nat) n4 = true) (w : World) (hR : w.heap[g]? = some (.cells cs 71 (0, 0))) (hB : Byt w A m d) (hS : Sl w (.slice AC L.length cc) 4 L.length (cellsP L)) (hT : TabW w) (c0 : Nat → Nat) (hO : Own 0 w (some ⟨ga, 0, none⟩) n4 c0) (R : (Nat → Nat) × Nat) (hRr : R = rowR (pxR d W bits off f L) (posR W H false) (W * H) 0 c0) :
    Calls Tryd.prog 47 #[.pointer (some ⟨g, 0, none⟩)] w fun e w' => Chg [ga] w w' ∧ (R.2 ≠ 0 ∧ PanB R.2 e ∨ R.2 = 0 ∧ e = .returned (.tuple #[]) ∧ Own 0 w' (some ⟨ga, 0, none⟩) n4 R.1) := by
  have c0' := hp_cell (j := 0) hR h.q0
  have c1 := hp_cell (j := 1) hR h.q1
  have c3 := hp_cell (j := 3) hR h.q3
  have c4 := hp_cell (j := 4) hR h.q4
  have c5 := hp_cell (j := 5) hR h.q5
  have c6 := hp_cell (j := 6) hR h.q6
  have c14 := hp_cell (j := 14) hR h.q14
  have c15 := hp_cell (j := 15) hR h.q15
  have c16 := hp_cell (j := 16) hR h.q16
  have HPX : Hid (PxS g m cap A d f bits AC cc L w) := Lib.hid ⟨c0', c6, hp_cell (j := 9) hR h.q9, hp_cell (j := 10) hR h.q10, hp_cell (j := 11) hR h.q11, hp_cell (j := 12) hR h.q12, hp_cell (j := 13) hR h.q13, hB, hS, hT⟩
  have HCS := Lib.hid (And.intro c1 (And.intro c3 (And.intro c4 (And.intro c5 (And.intro c14 (And.intro c15 c16))))))
  obtain ⟨V, hV⟩ : ∃ V, V = bmWide W bits := ⟨_, rfl⟩
  have hV1 := (wide_le (bits := bits) hW hb).1
  have hN1 := (wide_le (bits := bits) hW hb).2
  have HVB := Lib.hid hV
  rw [← hV] at hs hV1
  have HRI : Hid (∀ k, k < H → off + k * V + V ≤ m) := Lib.hid (fun k hk => row_in hs hk hoff)
  obtain ⟨N, hN⟩ : ∃ N, N = W * bits := ⟨_, rfl⟩
  obtain ⟨M, hM⟩ : ∃ M, M = V * H := ⟨_, rfl⟩
  have hM1 : V * H ≤ 1024 * 256 := Nat.mul_le_mul hV1 hH
  rw [← hM] at hs hM1
  rw [← hN] at hN1
  have hVN : V = (N + 31) / 32 * 4 := by rw [hV, hN]; rfl
  have m1 : (W : Int) * (bits : Int) = (N : Int) := by rw [hN]; simp
  have m3 : (V : Int) * (H : Int) = (M : Int) := by rw [hM]; simp
  have m4 : decide ((M : Int) ≤ (m : Int) - (off : Int)) = true := by simp; omega
  have HVN := Lib.hid hVN
  have HB6 := Lib.hid hb
  have HD := Lib.hid hd
  have HF := Lib.hid hf
  have HK := Lib.hid hk
  have HA := Lib.hid hA
  have HAC := Lib.hid hAC
  have HMB := Lib.hid hmb
  have HO := Lib.hid hO
  have HR := Lib.hid hRr
  have hg1 : ¬g = ga := hga
  clear h hR hV hN hM hVN hb hd hf hk hA hAC hmb hO hRr hB hS hT
  go_enter Tryd.func47, Tryd.ntmps47
  go_upto_region 0 with fail
  go_quiet (fail)
  go_upto_region 1 with fail
  have e2 : ((N : Int) + 31) / 32 * 4 = (V : Int) := by have := HVN.out; omega
  rw [e2]
  obtain ⟨w1, hw1⟩ : ∃ w1, w1 = w.drewN nq := ⟨_, rfl⟩
  have hB1 : Chg [ga] w w1 := hw1 ▸ (Chg.refl _ w).drewN nq
  have hb1 : Below w.heap.size w w1 := hw1 ▸ bel_drewN w nq
  have d0 := cell_bel hb1 c0'
  have d1 := cell_bel hb1 c1
  have d4 := cell_bel hb1 c4
  have HO1 := Lib.hid (HO.out.below hb1)
  rw [← hw1]
  clear c0' c1 c3 c4 c5 c6 c14 c15 c16 m1 e2 hw1 hb1 HO
  go_still_tail 17, (by kernel_rfl)
  repeat still_step
  try refine wpStill_nil ?_
  change wpList _ _ _ _ _ w1.drew
  go_wp2_with fail
  rw [m4]
  refine (bmust_yes 2 _).mono ?_
  rintro e w2 ⟨rfl, rfl⟩
  have HO2 := Lib.hid (HO1.out.below ((Below.refl _ w1).drew))
  have HC2 := Lib.hid hB1.drew
  clear d0 d1 d4 hB1 HO1 m3 m4 hs
  generalize w1.drew = w2 at *
  have c4 : w2.cell? ⟨g, 4, none⟩ = some (.int .i64 (H : Nat)) := cell_chg HC2.out (by simpa using hga) HCS.out.2.2.1
  go_wp2_with fail
  go_loopw [40] (fun q wr => ∃ (k : Nat) (ck : Nat → Nat), k ≤ H ∧ q = .int .i64 (k : Nat) ∧ Chg [ga] w wr ∧ Own 0 wr (some ⟨ga, 0, none⟩) n4 ck ∧ Hid (R = rowR (pxR d W bits off f L) (posR W H false) (W * (H - k)) (k * W) ck)) (fun q _ => H - (intOf q).toNat)
  case atStart => exact ⟨0, c0, by omega, rfl, HC2.out, HO2.out, by rw [Nat.sub_zero, Nat.zero_mul]; exact HR⟩
  case round =>
    clear HC2 HO2 HR c4
    obtain ⟨k, ck, hkH, rfl, hC, hO, hE⟩ := hrel
    have HC := Lib.hid hC
    have HO := Lib.hid hO
    have c3 : wr.cell? ⟨g, 3, none⟩ = some (.int .i64 (W : Nat)) := cell_chg hC (by simpa using hga) HCS.out.2.1
    have c4 : wr.cell? ⟨g, 4, none⟩ = some (.int .i64 (H : Nat)) := cell_chg hC (by simpa using hga) HCS.out.2.2.1
    have c5 : wr.cell? ⟨g, 5, none⟩ = some (.bool false) := cell_chg hC (by simpa using hga) HCS.out.2.2.2.1
    clear hC hO
    by_cases hlt : k < H
    · obtain ⟨Y, hY⟩ : ∃ Y, Y = bmY H false k := ⟨_, rfl⟩
      have hYl : Y < H := by rw [hY]; simp [bmY]; omega
      have hYI : ((H : Int) - 1 - k : Int) = (Y : Int) := by rw [hY]; simp [bmY]; try omega
      have HY := Lib.hid hY
      have HYI := Lib.hid hYI
      have z1 : IntKind.i64.wrap ((H : Int) - 1) = (H : Int) - 1 := IntWalk.i64_in _ (by omega)
      have z2 : IntKind.i64.wrap ((H : Int) - 1 - (k : Int)) = (H : Int) - 1 - (k : Int) := IntWalk.i64_in _ (by omega)
      have hri := HRI.out k hlt
      obtain ⟨T, hT⟩ : ∃ T, T = k * V := ⟨_, rfl⟩
      rw [← hT] at hri
      obtain ⟨P, hP⟩ : ∃ P, P = off + T := ⟨_, rfl⟩
      have HT := Lib.hid hT
      have HPE := Lib.hid hP
      have hPm : P + V ≤ m := by omega
      have kv : (k : Int) * (V : Int) = (T : Int) := by rw [hT]; simp
      have HWW : Hid (IntKind.i64.wrap ((off : Int) + IntKind.i64.wrap (T : Int)) = (P : Int)) := Lib.hid (by rw [IntWalk.i64_in (T : Int) (by omega), IntWalk.i64_in _ (by omega)]; omega)
      have hE2 := hE.out
      have hspl : W * (H - k) = W * (H - (k + 1)) + W := by rw [show H - k = (H - (k + 1)) + 1 by omega, Nat.mul_add, Nat.mul_one]
      rw [hspl] at hE2
      have HE := Lib.hid hE2
      clear hE hE2 hspl hY hYI hT hP hri
      go_wp2_with fail
      go_loopw [59] (fun q wx => ∃ (i : Nat) (cx : Nat → Nat), i ≤ W ∧ q = .int .i64 (i : Nat) ∧ Chg [ga] w wx ∧ Own 0 wx (some ⟨ga, 0, none⟩) n4 cx ∧ Hid (R = rowR (pxR d W bits off f L) (posR W H false) (W * (H - (k + 1)) + (W - i)) (k * W + i) cx)) (fun q _ => W - (intOf q).toNat)
      case atStart => exact ⟨0, ck, by omega, rfl, HC.out, HO.out, HE⟩
      case round =>
        clear HC HO HE c3 c4 c5
        obtain ⟨i, cx, hiW, rfl, hC, hO, hE⟩ := hrel
        by_cases hi : i < W
        · have hx := hE.out
          rw [show W * (H - (k + 1)) + (W - i) = (W * (H - (k + 1)) + (W - (i + 1))) + 1 by omega] at hx
          have hpx := pxR_at (d := d) (bits := bits) (off := off) (f := f) (L := L) (k := k) hi
          rw [← HVB.out, ← HT.out, ← HPE.out] at hpx
          have hpos := posR_at (H := H) (down := false) (k := k) hi
          rw [← HY.out] at hpos
          have hwi : P + (i * bits + bits + 7) / 8 ≤ m := by
            have := wide_in HB6.out hi
            rw [← HVB.out] at this
            omega
          have HWI := Lib.hid hwi
          have e1 := cell_chg hC (by simpa using hga) HCS.out.1
          have e14 := cell_chg hC (by simpa using hga) HCS.out.2.2.2.2.1
          have e15 := cell_chg hC (by simpa using hga) HCS.out.2.2.2.2.2.1
          have e16 := cell_chg hC (by simpa using hga) HCS.out.2.2.2.2.2.2
          have HC := Lib.hid hC
          have HO := Lib.hid hO
          have hge : ¬g = ga := hga
          clear hC hO hwi hE
          cases hq : bmPx d bits f L P i with
          | none =>
            rw [hq] at hpx
            rw [rowR_no hpx] at hx
            have HX := Lib.hid hx
            have HQ := Lib.hid hq
            clear hx hpx hpos hq
            go_wp2_with fail
            go_upto_region 11 with fail
            refine wp_region_held_drew (S := (fun w' => w'.cell? ⟨g, 1, none⟩ = some (.int .i64 (off : Nat)) ∧ w'.cell? ⟨g, 14, none⟩ = some (.int .i64 (W : Nat)) ∧ w'.cell? ⟨g, 15, none⟩ = some (.int .i64 (H : Nat)) ∧ w'.cell? ⟨g, 16, none⟩ = some (.slice (some ⟨ga, 0, none⟩) n4 cap'))) (by kernel_rfl) ⟨e1, e14, e15, e16⟩ (fun hHeld => ?_)
            refine wpAnyH_take (i := 0) (oi := ⟨some 62, _, _, _, _, _⟩) (v := ?v0) rfl (by kernel_rfl) (by kernel_rfl) (by kernel_rfl) (fun _ _ _ h => h) (Or.inl ⟨by rfl, ?y0⟩) hHeld ?r0
            case y0 => ((intro w hSw); (try dsimp only at hSw); go_split_ands; go_simp; try with_reducible rfl)
            try simp only [Act.put, List.setIfInBounds_toArray, List.set_cons_zero, List.set_cons_succ]
            refine wpAnyH_take (i := 1) (oi := ⟨some 63, _, _, _, _, _⟩) (v := ?v1) rfl (by kernel_rfl) (by kernel_rfl) (by kernel_rfl) (fun _ _ _ h => h) (Or.inl ⟨by rfl, ?y1⟩) hHeld ?r1
            case y1 => ((intro w hSw); (try dsimp only at hSw); go_split_ands; go_simp; try with_reducible rfl)
            try simp only [Act.put, List.setIfInBounds_toArray, List.set_cons_zero, List.set_cons_succ]
            refine wpAnyH_take (i := 2) (oi := ⟨some 64, _, _, _, _, _⟩) (v := ?v2) rfl (by kernel_rfl) (by kernel_rfl) (by kernel_rfl) (fun _ _ _ h => h) (Or.inl ⟨by rfl, ?y2⟩) hHeld ?r2
            case y2 => ((intro w hSw); (try dsimp only at hSw); go_split_ands; go_simp; try with_reducible rfl)
            try simp only [Act.put, List.setIfInBounds_toArray, List.set_cons_zero, List.set_cons_succ]
            refine wpAnyH_take (i := 3) (oi := ⟨some 65, _, _, _, _, _⟩) (v := ?v3) rfl (by kernel_rfl) (by kernel_rfl) (by kernel_rfl) (fun _ _ _ h => h) (Or.inl ⟨by rfl, ?y3⟩) hHeld ?r3
            case y3 => ((intro w hSw); (try dsimp only at hSw); go_split_ands; go_simp; try with_reducible rfl)
            try simp only [Act.put, List.setIfInBounds_toArray, List.set_cons_zero, List.set_cons_succ]
            refine wpAnyH_take (i := 4) (oi := ⟨some 66, _, _, _, _, _⟩) (v := ?v4) rfl (by kernel_rfl) (by kernel_rfl) (by kernel_rfl) (fun _ _ _ h => h) (Or.inl ⟨by rfl, ?y4⟩) hHeld ?r4
            case y4 => ((intro w hSw); (try dsimp only at hSw); go_split_ands; go_simp; try with_reducible rfl)
            try simp only [Act.put, List.setIfInBounds_toArray, List.set_cons_zero, List.set_cons_succ]
            refine wpAnyH_take (i := 5) (oi := ⟨some 67, _, _, _, _, _⟩) (v := ?v5) rfl (by kernel_rfl) (by kernel_rfl) (by kernel_rfl) (fun _ _ _ h => h) (Or.inl ⟨by rfl, ?y5⟩) hHeld ?r5
            case y5 => ((intro w hSw); (try dsimp only at hSw); go_split_ands; go_simp; try with_reducible rfl)
            try simp only [Act.put, List.setIfInBounds_toArray, List.set_cons_zero, List.set_cons_succ]
            refine wpAnyH_take (i := 6) (oi := ⟨some 68, _, _, _, _, _⟩) (v := ?v6) rfl (by kernel_rfl) (by kernel_rfl) (by kernel_rfl) (fun _ _ _ h => h) (Or.inl ⟨by rfl, ?y6⟩) hHeld ?r6
            case y6 => ((intro w hSw); (try dsimp only at hSw); go_split_ands; go_simp; try with_reducible rfl)
            try simp only [Act.put, List.setIfInBounds_toArray, List.set_cons_zero, List.set_cons_succ]
            refine wpAnyH_take (i := 7) (oi := ⟨some 69, _, _, _, _, _⟩) (v := ?v7) rfl (by kernel_rfl) (by kernel_rfl) (by kernel_rfl) (fun _ _ _ h => h) (Or.inl ⟨by rfl, ?y7⟩) hHeld ?r7
            case y7 => ((intro w hSw); (try dsimp only at hSw); go_split_ands; go_simp; try with_reducible rfl)
            try simp only [Act.put, List.setIfInBounds_toArray, List.set_cons_zero, List.set_cons_succ]
            refine wpAnyH_take (i := 8) (oi := ⟨some 70, _, _, _, _, _⟩) (v := ?v8) rfl (by kernel_rfl) (by kernel_rfl) (by kernel_rfl) (fun _ _ _ h => h) (Or.inl ⟨by rfl, ?y8⟩) hHeld ?r8
            case y8 => ((intro w hSw); (try dsimp only at hSw); go_split_ands; go_simp; try with_reducible rfl)
            try simp only [Act.put, List.setIfInBounds_toArray, List.set_cons_zero, List.set_cons_succ]
            refine wpAnyH_take (i := 9) (oi := ⟨some 71, _, _, _, _, _⟩) (v := ?v9) rfl (by kernel_rfl) (by kernel_rfl) (by kernel_rfl) (fun _ _ _ h => h) (Or.inl ⟨by rfl, ?y9⟩) hHeld ?r9
            case y9 => ((intro w hSw); (try dsimp only at hSw); go_split_ands; go_simp; try with_reducible rfl)
            try simp only [Act.put, List.setIfInBounds_toArray, List.set_cons_zero, List.set_cons_succ]
            refine wpAnyH_take (i := 10) (oi := ⟨some 72, _, _, _, _, _⟩) (v := ?v10) rfl (by kernel_rfl) (by kernel_rfl) (by kernel_rfl) (fun _ _ _ h => h) (Or.inl ⟨by rfl, ?y10⟩) hHeld ?r10
            case y10 => ((intro w hSw); (try dsimp only at hSw); go_split_ands; go_simp; try with_reducible rfl)
            try simp only [Act.put, List.setIfInBounds_toArray, List.set_cons_zero, List.set_cons_succ]
            refine wpAnyH_take (i := 11) (oi := ⟨some 73, _, _, _, _, _⟩) (v := ?v11) rfl (by kernel_rfl) (by kernel_rfl) (by kernel_rfl) (fun _ _ _ h => h) (Or.inl ⟨by rfl, ?y11⟩) hHeld ?r11
            case y11 => ((intro w hSw); (try dsimp only at hSw); go_split_ands; go_simp; try with_reducible rfl)
            try simp only [Act.put, List.setIfInBounds_toArray, List.set_cons_zero, List.set_cons_succ]
            refine wpAnyH_take (i := 12) (oi := ⟨some 74, _, _, _, _, _⟩) (v := ?v12) rfl (by kernel_rfl) (by kernel_rfl) (by kernel_rfl) (fun _ _ _ h => h) (Or.inl ⟨by rfl, ?y12⟩) hHeld ?r12
            case y12 => ((intro w hSw); (try dsimp only at hSw); go_split_ands; go_simp; try with_reducible rfl)
            try simp only [Act.put, List.setIfInBounds_toArray, List.set_cons_zero, List.set_cons_succ]
            refine wpAnyH_take (i := 13) (oi := ⟨some 75, _, _, _, _, _⟩) (v := ?v13) rfl (by kernel_rfl) (by kernel_rfl) (by kernel_rfl) (fun _ _ _ h => h) (Or.inl ⟨by rfl, ?y13⟩) hHeld ?r13
            case y13 => ((intro w hSw); (try dsimp only at hSw); go_split_ands; go_simp; try with_reducible rfl)
            try simp only [Act.put, List.setIfInBounds_toArray, List.set_cons_zero, List.set_cons_succ]
            refine wpAnyH_take (i := 14) (oi := ⟨some 76, _, _, _, _, _⟩) (v := ?v14) rfl (by kernel_rfl) (by kernel_rfl) (by kernel_rfl) (fun _ _ _ h => h) (Or.inl ⟨by rfl, ?y14⟩) hHeld ?r14
            case y14 => ((intro w hSw); (try dsimp only at hSw); go_split_ands; go_simp; try with_reducible rfl)
            try simp only [Act.put, List.setIfInBounds_toArray, List.set_cons_zero, List.set_cons_succ]
            refine wpAnyH_take (i := 15) (oi := ⟨some 77, _, _, _, _, _⟩) (v := ?v15) rfl (by kernel_rfl) (by kernel_rfl) (by kernel_rfl) (fun _ _ _ h => h) (Or.inl ⟨by rfl, ?y15⟩) hHeld ?r15
            case y15 => ((intro w hSw); (try dsimp only at hSw); go_split_ands; go_simp; try with_reducible rfl)
            try simp only [Act.put, List.setIfInBounds_toArray, List.set_cons_zero, List.set_cons_succ]
            refine wpAnyH_ready (rs := [16]) (by kernel_rfl) (by simp) (AllReadyH.cons (o := ⟨some 78, _, _, _, _, _⟩) rfl (fun K hK => ?_) AllReadyH.nil)
            go_simp
            rw [HWW.out]
            refine (pixel_any HB6.out (HPX.out.chg (HC.out.drew) (by simpa using hga) (by simpa using h0) (fun a ha => by simpa using HA.out a ha) (fun a ha => by simpa using HAC.out a ha)) HD.out HF.out HK.out hmc hcap hL hm P i (by omega) HWI.out).mono ?_
            rintro e w9 ⟨hB, ⟨hn9, hp9⟩ | ⟨q9, hq9, he9⟩⟩
            · obtain rfl := hp9
              dsimp +zetaDelta only [Exit.inBlock, Exit.then, bodyPost]
              exact ⟨rfl, (HC.out.drew).trans (Chg.of_below hB), .inl ⟨by rw [HX.out]; simp, by rw [HX.out]; rfl⟩⟩
            · rw [HQ.out] at hq9
              cases hq9
          | some q =>
            rw [hq] at hpx
            rw [rowR_yes hpx, hpos] at hx
            have HX := Lib.hid hx
            have HQ := Lib.hid hq
            have HIN := Lib.hid (inB_xy HMB.out hi hYl)
            have hPX : PixS w ga n4 cx (setC cx (Y * W + i) q) wr := ⟨HC.out, .inl HO.out⟩
            have hPXd := hPX.below ((Below.refl _ wr).drew)
            clear hx hpx hpos hq hPX HO
            go_wp2_with fail
            go_upto_region 11 with fail
            go_region_held3 (fun w' => w'.cell? ⟨g, 1, none⟩ = some (.int .i64 (off : Nat)) ∧ w'.cell? ⟨g, 14, none⟩ = some (.int .i64 (W : Nat)) ∧ w'.cell? ⟨g, 15, none⟩ = some (.int .i64 (H : Nat)) ∧ w'.cell? ⟨g, 16, none⟩ = some (.slice (some ⟨ga, 0, none⟩) n4 cap') ∧ PixS w ga n4 cx (setC cx (Y * W + i) q) w')
              (first | go_keep | (go_split_ands; refine ⟨?_, ?_, ?_, ?_, ?_⟩ <;> first | with_reducible assumption | (with_reducible refine cell_bel hB ?_; with_reducible assumption) | (with_reducible refine PixS.below ?_ hB; with_reducible assumption)))
              (first | (go_at_call 61; rw [HWW.out]; refine (pixel_S (ga := ga) (n4 := n4) HB6.out HPX.out HD.out HF.out HK.out hmc hcap hL hm hga h0 HA.out HAC.out P i (by omega) HWI.out q HQ.out cx (setC cx (Y * W + i) q) _ (by first | with_reducible assumption | (go_split_ands; with_reducible assumption))).mono ?_; rintro e w9 ⟨rfl, hB⟩) | (go_at_call 60; refine (set_S W H n4 cap' i Y ga q hn hmax hW hH HIN.out w cx _ _ rfl HYI.out _ (by first | with_reducible assumption | (go_split_ands; with_reducible assumption))).mono ?_; rintro e w10 ⟨rfl, hP9, hO9, hK9⟩; go_split_ands; have hq0 := cell_chg hK9 (p := ⟨g, 1, none⟩) (by simp; omega) (by with_reducible assumption); have hq1 := cell_chg hK9 (p := ⟨g, 14, none⟩) (by simp; omega) (by with_reducible assumption); have hq2 := cell_chg hK9 (p := ⟨g, 15, none⟩) (by simp; omega) (by with_reducible assumption); have hq3 := cell_chg hK9 (p := ⟨g, 16, none⟩) (by simp; omega) (by with_reducible assumption); clear hK9) | fail)
            have hch := (show PixS w ga n4 cx (setC cx (Y * W + i) q) w10 by first | with_reducible assumption | (go_split_ands; with_reducible assumption)).chg
            have HO10 := Lib.hid hO9
            have HC10 := Lib.hid hch
            clear hO9 hch hB hPXd
            go_wp2_with fail
            go_roundw
            case rel => exact ⟨i + 1, _, hi, by go_num, HC10.out, HO10.out, HX⟩
            case measure => simp [intOf]; omega
        · obtain rfl : i = W := by omega
          have hx := hE.out
          rw [Nat.sub_self, Nat.add_zero] at hx
          have HX := Lib.hid hx
          have HC := Lib.hid hC
          have HO := Lib.hid hO
          have hl : k * i + i = (k + 1) * i := by rw [Nat.add_mul, Nat.one_mul]
          have HL := Lib.hid hl
          clear hC hO hx hE hl
          go_wp2_with fail
          go_roundw
          case rel => exact ⟨k + 1, cx, hlt, by go_num, HC.out, HO.out, HL.out ▸ HX⟩
          case measure => simp [intOf]; omega
    · obtain rfl : k = H := by omega
      have hx := hE.out
      rw [Nat.sub_self, Nat.mul_zero, rowR_0] at hx
      have HX := Lib.hid hx
      clear hx hE
      go_wp2_with fail
      go_end0
      rw [HX.out]
      exact ⟨HC.out, .inr ⟨rfl, rfl, HO.out⟩⟩
end Go.Proofs.YthgafdbdmemkhaaDoor

namespace Go.Proofs.YthgafdbdmemkhaaDoor
set_option maxRecDepth 100000
set_option linter.unusedVariables false
open Go.ChangeShapes Go.WideShapes Go.ChangeAt Go.RowKit

/-- What is wrong with a head. -/
def headE (b : Nat → Nat) (n : Nat) : Nat :=
  if n < 54 then 2
  else if ¬(b 0 = 66 ∧ b 1 = 77) then 4
  else if ¬(bmS b = 40 ∨ bmS b = 108) then 4
  else if n < 14 + bmS b then 2
  else if ¬(lowD b 26 2 = 1 ∧ 0 < bmW b ∧ bmH b ≠ 0 ∧ bmFine (bmBits b) (bmK b) (bmH b) = true) then 4
  else if sizeE (bmW b) ((bmH b).natAbs : Nat) ≠ 0 then 6
  else 0
/-- The reader's cells. -/
def rdC (A : Option Addr) (m cap off S : Nat) (W H : Int) (down : Bool) (bits kind used : Nat) (f : Nat → Nat) (col r0 r1 r2 : Value) (p x y e : Nat) : Array Value :=
  #[.slice A m cap, .int .i64 (off : Nat), .int .i64 (S : Nat), .int .i64 W, .int .i64 H, .bool down, .int .i64 (bits : Nat), .int .i64 (kind : Nat), .int .i64 (used : Nat), .int .u32 (f 0 : Nat), .int .u32 (f 1 : Nat), .int .u32 (f 2 : Nat), .int .u32 (f 3 : Nat), col, r0, r1, r2, .int .i64 (p : Nat), .int .i64 (x : Nat), .int .i64 (y : Nat), .int .i64 (e : Nat)]
/-- A reader in memory. -/
structure HdS (g m : Nat) (A : Option Addr) (d : Nat → Nat) (cs : Array Value) (w : World) : Prop where
  hR : w.heap[g]? = some (.cells cs 71 (0, 0))
  hB : Byt w A m d
  hT : TabW w
/-- What stays of it. -/
structure HdC (g m cap : Nat) (A : Option Addr) (d : Nat → Nat) : Prop where
  hd : ∀ i, d i < 256
  hm : m ≤ 262144
  hA : ∀ a, A = some a → a.block ≠ g
  h0 : 0 ≠ g
section
variable {g m cap : Nat} {A : Option Addr} {d : Nat → Nat} {cs : Array Value} {w : World}
theorem HdS.cell (h : HdS g m A d cs w) {j : Nat} {v : Value} (q : cs[j]? = some v) : w.cell? ⟨g, j, none⟩ = some v := hp_cell h.hR q
theorem HdS.below (h : HdS g m A d cs w) {w' : World} (hb : Below w.heap.size w w') : HdS g m A d cs w' :=
  ⟨hp_below h.hR hb (lt_heap h.hR), h.hB.below hb, h.hT.below hb⟩
theorem HdS.drewN (h : HdS g m A d cs w) (k : Nat) : HdS g m A d cs (w.drewN k) := h.below (bel_drewN w k)
theorem HdS.drew (h : HdS g m A d cs w) : HdS g m A d cs w.drew := h.below ((Below.refl _ w).drew)
theorem HdS.set (K : HdC g m cap A d) (h : HdS g m A d cs w) (i : Nat) (v : Value) : HdS g m A d (cs.setIfInBounds i v) (w.setCell ⟨g, i, none⟩ v) :=
  have hc : Chg [g] w (w.setCell ⟨g, i, none⟩ v) := (Chg.refl [g] w).set (.inl (by simp)) i v
  ⟨heap_set h.hR, h.hB.chg hc (fun _ a ha => by simpa using K.hA a ha), h.hT.chg hc (by simpa using K.h0)⟩
theorem four_h (K : HdC g m cap A d) (h : HdS g m A d cs w) (q0 : cs[0]? = some (.slice A m cap)) (p : Nat) (hp : p + 4 ≤ m) :
    Calls Tryd.prog 49 #[.pointer (some ⟨g, 0, none⟩), .int .i64 (p : Nat)] w fun e w' => e = .returned (.int .i64 (lowD d p 4 : Nat)) ∧ Chg [g] w w' ∧ HdS g m A d cs w' := by
  refine (four_b g p m cap A d K.hd hp K.hm w (h.cell q0) h.hB).mono ?_
  rintro e w' ⟨he, k, rfl⟩
  exact ⟨he, (Chg.refl _ w).drewN k, h.drewN k⟩
theorem signed_h (K : HdC g m cap A d) (h : HdS g m A d cs w) (q0 : cs[0]? = some (.slice A m cap)) (p : Nat) (hp : p + 4 ≤ m) :
    Calls Tryd.prog 50 #[.pointer (some ⟨g, 0, none⟩), .int .i64 (p : Nat)] w fun e w' => e = .returned (.int .i64 (sgnV (lowD d p 4))) ∧ Chg [g] w w' ∧ HdS g m A d cs w' := by
  refine (signed_b g p m cap A d K.hd hp K.hm w (h.cell q0) h.hB).mono ?_
  rintro e w' ⟨he, k, rfl⟩
  exact ⟨he, (Chg.refl _ w).drewN k, h.drewN k⟩
theorem two_h (K : HdC g m cap A d) (h : HdS g m A d cs w) (q0 : cs[0]? = some (.slice A m cap)) (p : Nat) (hp : p + 2 ≤ m) :
    Calls Tryd.prog 51 #[.pointer (some ⟨g, 0, none⟩), .int .i64 (p : Nat)] w fun e w' => e = .returned (.int .i64 (lowD d p 2 : Nat)) ∧ Chg [g] w w' ∧ HdS g m A d cs w' := by
  refine (two_b g p m cap A d K.hd hp K.hm w (h.cell q0) h.hB).mono ?_
  rintro e w' ⟨he, k, rfl⟩
  exact ⟨he, (Chg.refl _ w).drewN k, h.drewN k⟩
theorem HdS.byt (h : HdS g m A d cs w) (hm : 0 < m) : ∃ bk of, A = some ⟨bk, of, none⟩ ∧ ∀ j, j < m → w.cell? ⟨bk, of + j, none⟩ = some (.int .u8 (d j : Nat)) := by
  obtain ⟨bk, of, e, _, h2⟩ := h.hB hm
  exact ⟨bk, of, e, h2⟩
end
theorem sgnV_bd {d : Nat → Nat} (hd : ∀ i, d i < 256) (p : Nat) : -2147483648 ≤ sgnV (lowD d p 4) ∧ sgnV (lowD d p 4) < 2147483648 := by
  have h := lowD_lt hd p 4
  rw [show (256 : Nat) ^ 4 = 4294967296 from rfl] at h
  unfold sgnV
  split <;> omega
theorem size_01 (a b : Int) : (sizeE a b == 0) = decide (sizeE a b = 0) := rfl
end Go.Proofs.YthgafdbdmemkhaaDoor
