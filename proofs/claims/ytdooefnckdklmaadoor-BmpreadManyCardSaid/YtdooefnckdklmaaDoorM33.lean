/- engraverref14.Bmp on any bytes. BmpreadDecodes: any bytes. Bytes that came in: their block is there. -/
import Derived.Test.YtdooefnckdklmaaDoorM32

namespace Go.Proofs.YtdooefnckdklmaaDoor
set_option maxRecDepth 100000
set_option linter.unusedVariables false
open Go.ChangeShapes Go.WideShapes Go.ChangeAt Go.RowKit

theorem runs_fuel (d : Nat → Nat) (m W H kind : Nat) (L : List P4) : ∀ (K p x y : Nat) (c : Nat → Nat), m + 1 ≤ K + p → runsB d m W H kind L (K + 1) p x y c = runsB d m W H kind L K p x y c
  | 0, p, x, y, c, h => by rw [runs_short (by omega), runs_short (by omega)]
  | K + 1, p, x, y, c, h => by
    by_cases h1 : m < p + 2
    · rw [runs_short h1, runs_short h1]
    by_cases h2 : 0 < d p
    · rw [runs_run h1 h2 _ rfl, runs_run h1 h2 _ rfl, runs_fuel d m W H kind L K _ _ _ _ (by omega)]
    have h3 : d p = 0 := by omega
    by_cases h4 : d (p + 1) = 0
    · rw [runs_line h1 h3 h4, runs_line h1 h3 h4, runs_fuel d m W H kind L K _ _ _ _ (by omega)]
    by_cases h5 : d (p + 1) = 1
    · rw [runs_end h1 h3 h5, runs_end h1 h3 h5]
    by_cases h6 : d (p + 1) = 2
    · rw [runs_step h1 h3 h6, runs_step h1 h3 h6, runs_fuel d m W H kind L K _ _ _ _ (by omega)]
    · have h8 : 2 < d (p + 1) := by omega
      rw [runs_one h1 h3 h8 _ rfl, runs_one h1 h3 h8 _ rfl, runs_fuel d m W H kind L K _ _ _ _ (by omega)]
theorem runs_fuels (d : Nat → Nat) (m W H kind : Nat) (L : List P4) (K p x y : Nat) (c : Nat → Nat) (h : m + 1 ≤ K + p) : ∀ j, runsB d m W H kind L (K + j) p x y c = runsB d m W H kind L K p x y c
  | 0 => rfl
  | j + 1 => by rw [← Nat.add_assoc, runs_fuel d m W H kind L (K + j) p x y c (by omega), runs_fuels d m W H kind L K p x y c h j]
/-- A head with nothing wrong. -/
structure HdOk (d : Nat → Nat) (m : Nat) : Prop where
  m1 : m ≤ 262144
  m2 : 54 ≤ m
  W : 1 ≤ bmW d ∧ bmW d ≤ 256
  H : 1 ≤ (bmH d).natAbs ∧ (bmH d).natAbs ≤ 256
  fine : bmFine (bmBits d) (bmK d) (bmH d) = true
  size : sizeE (bmW d) ((bmH d).natAbs : Nat) = 0
  used : bmBits d ≤ 8 → bmUsed d ≤ 2 ^ bmBits d
  off : bmOff d ≤ m
theorem hd_ok {d : Nat → Nat} {m : Nat} (h : bmErr d m = 0) : HdOk d m := by
  unfold bmErr at h
  by_cases h1 : 262144 < m
  · rw [if_pos h1] at h; cases h
  rw [if_neg h1] at h
  by_cases h2 : m < 54
  · rw [if_pos h2] at h; cases h
  rw [if_neg h2] at h
  by_cases h3 : ¬(d 0 = 66 ∧ d 1 = 77)
  · rw [if_pos h3] at h; cases h
  rw [if_neg h3] at h
  by_cases h4 : ¬(bmS d = 40 ∨ bmS d = 108)
  · rw [if_pos h4] at h; cases h
  rw [if_neg h4] at h
  by_cases h5 : m < 14 + bmS d
  · rw [if_pos h5] at h; cases h
  rw [if_neg h5] at h
  by_cases h6 : ¬(lowD d 26 2 = 1 ∧ 0 < bmW d ∧ bmH d ≠ 0 ∧ bmFine (bmBits d) (bmK d) (bmH d) = true)
  · rw [if_pos h6] at h; cases h
  rw [if_neg h6] at h
  by_cases h7 : sizeE (bmW d) ((bmH d).natAbs : Nat) ≠ 0
  · rw [if_pos h7] at h; cases h
  rw [if_neg h7] at h
  by_cases h8 : bmK d = 3 ∧ m < 54 + 4 * bmMany d
  · rw [if_pos h8] at h; cases h
  rw [if_neg h8] at h
  by_cases h9 : bmK d = 3 ∧ masksB (bmMask d) (bmBits d) = false
  · rw [if_pos h9] at h; cases h
  rw [if_neg h9] at h
  by_cases h10 : bmBits d ≤ 8 ∧ 2 ^ bmBits d < bmUsed d
  · rw [if_pos h10] at h; cases h
  rw [if_neg h10] at h
  by_cases h11 : bmBits d ≤ 8 ∧ m < bmE1 d + 4 * bmUsed d
  · rw [if_pos h11] at h; cases h
  rw [if_neg h11] at h
  by_cases h12 : bmOff d < bmE2 d
  · rw [if_pos h12] at h; cases h
  rw [if_neg h12] at h
  by_cases h13 : m < bmOff d
  · rw [if_pos h13] at h; cases h
  obtain ⟨_, q1, q2, q3⟩ := Classical.not_not.1 h6
  have hz := Classical.not_not.1 h7
  obtain ⟨z1, z2, z3, z4, _⟩ := size_ok hz
  exact ⟨by omega, by omega, ⟨z1, z2⟩, ⟨by omega, by omega⟩, q3, hz, fun h => by omega, by omega⟩
theorem cols_len {d : Nat → Nat} {m : Nat} (h : HdOk d m) : (bmCols d).length ≤ 256 := by
  unfold bmCols
  split
  · rename_i hb
    rw [List.length_map, List.length_range]
    have h1 := h.used hb
    have h2 : (2 : Nat) ^ bmBits d ≤ 2 ^ 8 := Nat.pow_le_pow_right (by omega) hb
    omega
  · simp
set_option maxRecDepth 1000000 in
set_option maxHeartbeats 8000000 in
theorem bmp_any (A : Option Addr) (m cap : Nat) (d : Nat → Nat) (hd : ∀ i, d i < 256) (hmc : m ≤ cap) (hcap : cap ≤ maxLen) (w : World) (hB : Byt w A m d) :
    Calls Tryd.prog 12 #[.slice A m cap] w (picPost (bmW d).toNat (bmH d).natAbs (bmG d m) w) := by
  have HD := Lib.hid hd
  have HCP := Lib.hid hcap
  unfold maxLen at hcap
  obtain ⟨R, hR⟩ : ∃ R, R = bmG d m := ⟨_, rfl⟩
  rw [← hR]
  have HR := Lib.hid hR
  obtain ⟨W, hW⟩ : ∃ W, W = (bmW d).toNat := ⟨_, rfl⟩
  obtain ⟨H, hH⟩ : ∃ H, H = (bmH d).natAbs := ⟨_, rfl⟩
  rw [← hW, ← hH]
  have HWE := Lib.hid hW
  have HHE := Lib.hid hH
  have HAB : Hid (0 < m → ∀ a, A = some a → a.block < w.heap.size) := Lib.hid (fun h0 a ha => by
    obtain ⟨bk, of, h1, h2, _⟩ := hB h0
    rw [h1] at ha
    cases ha
    exact h2)
  have hBX := Lib.hid ((Below.refl _ w).alloc (Nat.le_refl _) (.cells #[.int .i64 0, .int .i64 0, .slice none 0 0] 26))
  have HRB := Lib.hid (hp_new0 w (.cells #[.int .i64 0, .int .i64 0, .slice none 0 0] 26))
  have HBY := Lib.hid (hB.below hBX.out)
  have hlw : w.heap.size < (w.alloc (.cells #[.int .i64 0, .int .i64 0, .slice none 0 0] 26)).heap.size := lt_heap HRB.out
  clear hd hR hB hW hH
  go_enter Tryd.func12, Tryd.ntmps12
  go_wp2_with fail
  generalize w.alloc (.cells #[.int .i64 0, .int .i64 0, .slice none 0 0] 26) = w1 at *
  refine (info_ref A m cap d HD.out hmc HCP.out _ HBY.out).mono ?_
  rintro e w2 ⟨hB2, ⟨hE0, AC, cc, rfl, hO2⟩ | ⟨hE0, rfl⟩⟩
  rotate_left
  · obtain ⟨E, hE⟩ : ∃ E, E = bmErr d m := ⟨_, rfl⟩
    rw [← hE] at hE0 ⊢
    have HRR : Hid (R = (noB, E)) := Lib.hid (by rw [HR.out, hE]; exact bmG_err rfl (by rw [← hE]; exact hE0))
    have hal : Below w2.heap.size w2 (w2.alloc (.cells #[.int .i64 0, .int .i64 0, .int .i64 0, .int .i64 0, .int .i64 0, .bool false, .int .u32 0, .int .u32 0, .int .u32 0, .int .u32 0, .slice none 0 0] 70)) := (Below.refl _ w2).alloc (Nat.le_refl _) _
    have hbb := hB2.trans (hal.mono hB2.size)
    have HRS := Lib.hid (hp_below HRB.out hbb hlw)
    have HBL := Lib.hid (hBX.out.trans (hbb.mono hBX.out.size))
    have HE0 : Hid (E ≠ 0) := Lib.hid hE0
    have t1 : ((E : Int) != 0) = true := bne_iff_ne.2 (by omega)
    clear hE hal hbb hB2 HRB hBX HBY hE0
    have r0 := hp_cell (j := 0) HRS.out rfl
    have r1 := hp_cell (j := 1) HRS.out rfl
    have r2 := hp_cell (j := 2) HRS.out rfl
    have rf := hp_froz HRS.out
    go_wp2_with fail
    refine bodyPost_ret (v := .tuple #[.agg #[.int .i64 0, .int .i64 0, .slice none 0 0], .int .i64 (E : Nat)]) (by rw [results_cell_tmp rfl]; go_simp) rfl ?_
    exact bp_bad HRR.out HE0.out HBL.out _ _ _
  have hok := hd_ok hE0
  have hcl := cols_len hok
  have hW := HWE.out
  have hH := HHE.out
  obtain ⟨bits, hbits⟩ : ∃ x, x = bmBits d := ⟨_, rfl⟩
  obtain ⟨K, hK⟩ : ∃ x, x = bmK d := ⟨_, rfl⟩
  obtain ⟨o, ho⟩ : ∃ x, x = bmOff d := ⟨_, rfl⟩
  obtain ⟨dn, hdn⟩ : ∃ x, x = decide (bmH d < 0) := ⟨_, rfl⟩
  obtain ⟨f, hf⟩ : ∃ x, x = bmMask d := ⟨_, rfl⟩
  obtain ⟨L, hL⟩ : ∃ x, x = bmCols d := ⟨_, rfl⟩
  obtain ⟨n, hn⟩ : ∃ x, x = (bmCols d).length := ⟨_, rfl⟩
  have hWI : bmW d = (W : Int) := by have := hok.W; omega
  have hW2 : 1 ≤ W ∧ W ≤ 256 := by have := hok.W; omega
  have hH2 : 1 ≤ H ∧ H ≤ 256 := by rw [hH]; exact hok.H
  have hfine := fine_bits hok.fine
  rw [← hbits, ← hK] at hfine
  have hz := hok.size
  rw [hWI, ← hH] at hz
  have hom : o ≤ m := by rw [ho]; exact hok.off
  have hm1 := hok.m1
  have hm2 := hok.m2
  rw [← hn] at hcl
  rw [← hn, ← hL] at hO2
  rw [infoD, hWI, ← hH, ← hbits, ← hK, ← ho, ← hdn, ← hf, ← hn]
  have hG : R = if K = 1 ∨ K = 2 then runsB d m W H K L (m + 1) o 0 0 noB else bmRows d m W H bits o dn f L := by
    rw [HR.out, bmG, hE0, if_neg (by simp), ← hK, ← hW, ← hH, ← hbits, ← ho, ← hdn, ← hf, ← hL]
  have HG := Lib.hid hG
  have HZ := Lib.hid hz
  have HFI := Lib.hid hfine
  have HFL : Hid (∀ i, f i < 4294967296) := Lib.hid (fun i => by rw [hf]; exact mask_lt HD.out i)
  have HLN : Hid (L.length = n) := Lib.hid (by rw [hL, hn])
  obtain ⟨C, hC⟩ : ∃ C, C = infoC (W : Nat) (H : Nat) bits K o dn f (.slice AC n cc) := ⟨_, rfl⟩
  have hal : Below w2.heap.size w2 (w2.alloc (.cells C 70)) := (Below.refl _ w2).alloc (Nat.le_refl _) _
  have hbb := hB2.trans (hal.mono hB2.size)
  have HX3 := Lib.hid (hp_new0 w2 (.cells C 70))
  have HR3 := Lib.hid (hp_below HRB.out hbb hlw)
  have HY3 := Lib.hid (HBY.out.below hbb)
  have HB3 := Lib.hid (hBX.out.trans (hbb.mono hBX.out.size))
  have HC3 := Lib.hid ((Sl.of_own hO2).below hal)
  have hxw : w.heap.size < w2.heap.size := Nat.lt_of_lt_of_le hlw hB2.size
  have HCB : Hid (0 < n → ∀ a, AC = some a → a.block < w2.heap.size) := Lib.hid (fun h0 a ha => by
    obtain ⟨bk, of, h1, h2, _⟩ := (Sl.of_own hO2).cell h0
    rw [h1] at ha
    cases ha
    exact h2)
  rw [hC] at HX3 HR3 HY3 HB3 HC3
  have HX4 := HX3
  clear hok hW hH hbits hK ho hdn hf hL hn hWI hE0 hB2 hO2 hal hbb hfine hz hG hC hlw HRB hBX HBY HR
  unfold infoC at HX3 HR3 HY3 HB3 HC3 ⊢
  go_upto_region 2 with fail
  obtain ⟨xb, hxb⟩ : ∃ xb, xb = w2.heap.size := ⟨_, rfl⟩
  rw [← hxb] at HX3 HX4 HCB hxw ⊢
  generalize w2.alloc (.cells #[.int .i64 (W : Nat), .int .i64 (H : Nat), .int .i64 (bits : Nat), .int .i64 (K : Nat), .int .i64 (o : Nat), .bool dn, .int .u32 (f 0 : Nat), .int .u32 (f 1 : Nat), .int .u32 (f 2 : Nat), .int .u32 (f 3 : Nat), .slice AC n cc] 70) = w3 at *
  clear hxb HWE HHE
  have k3 : w3.cell? ⟨xb, 3, none⟩ = some (.int .i64 (K : Nat)) := hp_cell HX3.out rfl
  have k4 : w3.cell? ⟨xb, 4, none⟩ = some (.int .i64 (o : Nat)) := hp_cell HX3.out rfl
  have RL := fun V => run_lo A m cap o hom V
  by_cases hk12 : K = 1 ∨ K = 2
  · have hGG := HG.out
    rw [if_pos hk12] at hGG
    have hK8 : (K = 1 → bits = 8) ∧ (K = 2 → bits = 4) := ⟨fun h => (HFI.out.2.2.1 h).1, fun h => (HFI.out.2.2.2.1 h).1⟩
    have hsh : runsB (fun j => d (o + j)) (m - o) W H K L (m - o + 1) 0 0 0 noB = R := by
      rw [runs_shift d o m W H K L hom, hGG]
      have h1 := runs_fuels d m W H K L (m - o + 1) (o + 0) 0 0 noB (by omega) o
      rw [show m - o + 1 + o = m + 1 by omega] at h1
      exact h1.symm
    obtain ⟨B2, hB2⟩ : ∃ B2, B2 = (if cap = o then A else A.map (·.add o)) := ⟨_, rfl⟩
    have hBf : Byt w3.drew B2 (m - o) (fun j => d (o + j)) := by
      rw [hB2]
      exact fun h0 => (HY3.out.from hmc (q := o) (k := m - o) (by omega)) h0
    have hRun := runs_ref W H bits K o dn f AC n cc L B2 (m - o) (cap - o) _ (fun j => HD.out (o + j)) hk12 hW2 hH2 HZ.out HLN.out.symm hcl (by omega) (by omega) (by have := HCP.out; omega) w3.drew hBf (HC3.out.below (Below.refl _ _).drew)
    rw [hsh] at hRun
    unfold infoC at hRun
    rw [← hB2] at RL
    have HRun := Lib.hid hRun
    have k0 : w3.cell? ⟨xb, 0, none⟩ = some (.int .i64 (W : Nat)) := hp_cell HX3.out rfl
    have k1 : w3.cell? ⟨xb, 1, none⟩ = some (.int .i64 (H : Nat)) := hp_cell HX3.out rfl
    have k2 : w3.cell? ⟨xb, 2, none⟩ = some (.int .i64 (bits : Nat)) := hp_cell HX3.out rfl
    have k5 : w3.cell? ⟨xb, 5, none⟩ = some (.bool dn) := hp_cell HX3.out rfl
    have k6 : w3.cell? ⟨xb, 6, none⟩ = some (.int .u32 (f 0 : Nat)) := hp_cell HX3.out rfl
    have k7 : w3.cell? ⟨xb, 7, none⟩ = some (.int .u32 (f 1 : Nat)) := hp_cell HX3.out rfl
    have k8 : w3.cell? ⟨xb, 8, none⟩ = some (.int .u32 (f 2 : Nat)) := hp_cell HX3.out rfl
    have k9 : w3.cell? ⟨xb, 9, none⟩ = some (.int .u32 (f 3 : Nat)) := hp_cell HX3.out rfl
    have k10 : w3.cell? ⟨xb, 10, none⟩ = some (.slice AC n cc) := hp_cell HX3.out rfl
    clear hGG hsh hB2 hBf hRun HG
    go_upto_region 4 with fail
    go_cut [34] from 29 to 34 (fun s wx => s = .bool true ∧ wx = w3)
    case first =>
      rcases hk12 with h1 | h2
      · have q1 : ((K : Int) == 1) = true := beq_iff_eq.2 (by omega)
        clear h1
        go_wp2_with fail
        go_meet
        exact ⟨rfl, rfl⟩
      · have q1 : ((K : Int) == 1) = false := beq_eq_false_iff_ne.2 (by omega)
        have q2 : ((K : Int) == 2) = true := beq_iff_eq.2 (by omega)
        clear h2
        go_wp2_with fail
        go_meet
        exact ⟨rfl, rfl⟩
    case rest =>
    obtain ⟨rfl, hwc⟩ := hcut
    obtain rfl : w3 = wc := hwc.symm
    clear hwc hk12 hK8
    go_upto_region 5 with fail
    clear k0 k1 k2 k3 k4 k5 k6 k7 k8 k9 k10
    refine wp_region_held_drew (S := fun w' => w'.heap[xb]? = some (.cells #[.int .i64 (W : Nat), .int .i64 (H : Nat), .int .i64 (bits : Nat), .int .i64 (K : Nat), .int .i64 (o : Nat), .bool dn, .int .u32 (f 0 : Nat), .int .u32 (f 1 : Nat), .int .u32 (f 2 : Nat), .int .u32 (f 3 : Nat), .slice AC n cc] 70 (0, 0))) (by kernel_rfl) HX3.out (fun hHeld => ?_)
    refine wpAnyH_take (i := 0) (oi := ⟨some 35, _, _, _, _, _⟩) (v := ?v0n1) rfl (by kernel_rfl) (by kernel_rfl) (by kernel_rfl) (fun _ _ _ h => h) (Or.inl ⟨by rfl, ?y0n1⟩) hHeld ?r0n1
    case y0n1 => ((intro wq hSw); have h0 := hp_cell (j := 0) hSw rfl; have h1 := hp_cell (j := 1) hSw rfl; have h2 := hp_cell (j := 2) hSw rfl; have h3 := hp_cell (j := 3) hSw rfl; have h4 := hp_cell (j := 4) hSw rfl; have h5 := hp_cell (j := 5) hSw rfl; have h6 := hp_cell (j := 6) hSw rfl; have h7 := hp_cell (j := 7) hSw rfl; have h8 := hp_cell (j := 8) hSw rfl; have h9 := hp_cell (j := 9) hSw rfl; have h10 := hp_cell (j := 10) hSw rfl; go_simp; try with_reducible rfl)
    try simp only [Act.put, List.setIfInBounds_toArray, List.set_cons_zero, List.set_cons_succ]
    refine wpAnyH_take (i := 1) (oi := ⟨some 36, _, _, _, _, _⟩) (v := ?v1n2) rfl (by kernel_rfl) (by kernel_rfl) (by kernel_rfl) (fun _ _ _ h => h) (Or.inl ⟨by rfl, ?y1n2⟩) hHeld ?r1n2
    case y1n2 => ((intro wq hSw); go_simp; try with_reducible rfl)
    try simp only [Act.put, List.setIfInBounds_toArray, List.set_cons_zero, List.set_cons_succ]
    refine wpAnyH_take (i := 2) (oi := ⟨some 37, _, _, _, _, _⟩) (v := ?v2n3) rfl (by kernel_rfl) (by kernel_rfl) (by kernel_rfl) (fun _ _ _ h => h) (Or.inl ⟨by rfl, ?y2n3⟩) hHeld ?r2n3
    case y2n3 => ((intro wq hSw); go_simp; try with_reducible rfl)
    try simp only [Act.put, List.setIfInBounds_toArray, List.set_cons_zero, List.set_cons_succ]
    refine wpAnyH_take (i := 3) (oi := ⟨some 38, _, _, _, _, _⟩) (v := ?v3n4) rfl (by kernel_rfl) (by kernel_rfl) (by kernel_rfl) (fun _ _ _ h => h) (Or.inl ⟨by rfl, ?y3n4⟩) hHeld ?r3n4
    case y3n4 => ((intro wq hSw); have h0 := hp_cell (j := 0) hSw rfl; have h1 := hp_cell (j := 1) hSw rfl; have h2 := hp_cell (j := 2) hSw rfl; have h3 := hp_cell (j := 3) hSw rfl; have h4 := hp_cell (j := 4) hSw rfl; have h5 := hp_cell (j := 5) hSw rfl; have h6 := hp_cell (j := 6) hSw rfl; have h7 := hp_cell (j := 7) hSw rfl; have h8 := hp_cell (j := 8) hSw rfl; have h9 := hp_cell (j := 9) hSw rfl; have h10 := hp_cell (j := 10) hSw rfl; go_simp; try with_reducible rfl)
    try simp only [Act.put, List.setIfInBounds_toArray, List.set_cons_zero, List.set_cons_succ]
    refine wpAnyH_take (i := 4) (oi := ⟨some 39, _, _, _, _, _⟩) (v := ?v4n5) rfl (by kernel_rfl) (by kernel_rfl) (by kernel_rfl) (fun _ _ _ h => h) (Or.inl ⟨by rfl, ?y4n5⟩) hHeld ?r4n5
    case y4n5 => ((intro wq hSw); have hRL := RL wq; go_simp; try with_reducible rfl)
    try simp only [Act.put, List.setIfInBounds_toArray, List.set_cons_zero, List.set_cons_succ]
    refine wpAnyH_ready (rs := [5]) (by kernel_rfl) (by simp) (AllReadyH.cons (o := ⟨some 40, _, _, _, _, _⟩) rfl (fun K hK => ?_) AllReadyH.nil)
    go_simp
    refine HRun.out.mono ?_
    rintro e w9 ⟨hB9, ⟨h0, A9, cap9, hn9, hc9, rfl, hO9⟩ | ⟨h0, rfl⟩⟩
    · have hX9 := hp_below (hp_drew HX3.out) hB9 (lt_heap (hp_drew HX3.out))
      have hR9 := hp_below (hp_drew HR3.out) hB9 (lt_heap (hp_drew HR3.out))
      have HB9 := Lib.hid (HB3.out.trans (((Below.refl _ w3).drew.trans hB9).mono HB3.out.size))
      have r0 := hp_cell (j := 0) hR9 rfl
      have r1 := hp_cell (j := 1) hR9 rfl
      have r2 := hp_cell (j := 2) hR9 rfl
      have rf := hp_froz hR9
      have HX9 := Lib.hid hX9
      clear hX9
      go_wp2_with fail
      refine hK.out _ _ HX9.out (fun hHeld => ?_)
      clear hK K
      try simp only [Act.put, List.setIfInBounds_toArray, List.set_cons_zero, List.set_cons_succ]
      refine wpAnyH_take (i := 6) (oi := ⟨some 41, _, _, _, _, _⟩) (v := ?v6n9) rfl (by kernel_rfl) (by kernel_rfl) (by kernel_rfl) (fun _ _ _ h => h) (Or.inl ⟨by rfl, ?y6n9⟩) hHeld ?r6n9
      case y6n9 => ((intro wq hSw); go_simp; try with_reducible rfl)
      try simp only [Act.put, List.setIfInBounds_toArray, List.set_cons_zero, List.set_cons_succ]
      refine wpAnyH_take (i := 7) (oi := ⟨some 42, _, _, _, _, _⟩) (v := ?v7n10) rfl (by kernel_rfl) (by kernel_rfl) (by kernel_rfl) (fun _ _ _ h => h) (Or.inl ⟨by rfl, ?y7n10⟩) hHeld ?r7n10
      case y7n10 => ((intro wq hSw); go_simp; try with_reducible rfl)
      try simp only [Act.put, List.setIfInBounds_toArray, List.set_cons_zero, List.set_cons_succ]
      refine wpAnyH_ready (rs := [8]) (by kernel_rfl) (by simp) (AllReadyH.cons (o := ⟨none, _, _, _, _, _⟩) rfl (fun K hK => ?_) AllReadyH.nil)
      go_simp
      refine hK.out _ _ (hp_oth (hp_oth (hp_oth HX9.out (by omega)) (by omega)) (by omega)) (fun hHeld => ?_)
      clear hK K
      try simp only [Act.put, List.setIfInBounds_toArray, List.set_cons_zero, List.set_cons_succ]
      refine wpAnyH_take (i := 9) (oi := ⟨some 3, _, _, _, _, _⟩) (v := ?v9n11) rfl (by kernel_rfl) (by kernel_rfl) (by kernel_rfl) (fun _ _ _ h => h) (Or.inl ⟨by rfl, ?y9n11⟩) hHeld ?r9n11
      case y9n11 => ((intro wq hSw); go_simp; try with_reducible rfl)
      try simp only [Act.put, List.setIfInBounds_toArray, List.set_cons_zero, List.set_cons_succ]
      refine wpAnyH_done (by kernel_rfl) ?_ _
      go_wp2_with fail
      refine bodyPost_ret (v := .tuple #[.agg #[.int .i64 (W : Nat), .int .i64 (H : Nat), .slice A9 (4 * (W * H)) cap9], .int .i64 0]) (by rw [results_cell_tmp rfl]; go_simp) rfl ?_
      refine ⟨((HB9.out.setCell (p := ⟨w.heap.size, 0, none⟩) (Nat.le_refl _) _).setCell (p := ⟨w.heap.size, 1, none⟩) (Nat.le_refl _) _).setCell (p := ⟨w.heap.size, 2, none⟩) (Nat.le_refl _) _, .inl ⟨h0, A9, cap9, hn9, hc9, rfl, ?_⟩⟩
      have hl : w.heap.size < w3.drew.heap.size := Nat.lt_trans hxw (lt_heap HX3.out)
      exact (((hO9.set (g := w.heap.size) hl 0 _).set (g := w.heap.size) hl 1 _).set (g := w.heap.size) hl 2 _).le (Nat.le_of_lt hl)
    · have hX9 := hp_below (hp_drew HX3.out) hB9 (lt_heap (hp_drew HX3.out))
      have hR9 := hp_below (hp_drew HR3.out) hB9 (lt_heap (hp_drew HR3.out))
      have HB9 := Lib.hid (HB3.out.trans (((Below.refl _ w3).drew.trans hB9).mono HB3.out.size))
      have r0 := hp_cell (j := 0) hR9 rfl
      have r1 := hp_cell (j := 1) hR9 rfl
      have r2 := hp_cell (j := 2) hR9 rfl
      have rf := hp_froz hR9
      have HX9 := Lib.hid hX9
      clear hX9
      go_wp2_with fail
      refine hK.out _ _ HX9.out (fun hHeld => ?_)
      clear hK K
      try simp only [Act.put, List.setIfInBounds_toArray, List.set_cons_zero, List.set_cons_succ]
      refine wpAnyH_take (i := 6) (oi := ⟨some 41, _, _, _, _, _⟩) (v := ?v6n12) rfl (by kernel_rfl) (by kernel_rfl) (by kernel_rfl) (fun _ _ _ h => h) (Or.inl ⟨by rfl, ?y6n12⟩) hHeld ?r6n12
      case y6n12 => ((intro wq hSw); go_simp; try with_reducible rfl)
      try simp only [Act.put, List.setIfInBounds_toArray, List.set_cons_zero, List.set_cons_succ]
      refine wpAnyH_take (i := 7) (oi := ⟨some 42, _, _, _, _, _⟩) (v := ?v7n13) rfl (by kernel_rfl) (by kernel_rfl) (by kernel_rfl) (fun _ _ _ h => h) (Or.inl ⟨by rfl, ?y7n13⟩) hHeld ?r7n13
      case y7n13 => ((intro wq hSw); go_simp; try with_reducible rfl)
      try simp only [Act.put, List.setIfInBounds_toArray, List.set_cons_zero, List.set_cons_succ]
      refine wpAnyH_ready (rs := [8]) (by kernel_rfl) (by simp) (AllReadyH.cons (o := ⟨none, _, _, _, _, _⟩) rfl (fun K hK => ?_) AllReadyH.nil)
      go_simp
      refine hK.out _ _ (hp_oth (hp_oth (hp_oth HX9.out (by omega)) (by omega)) (by omega)) (fun hHeld => ?_)
      clear hK K
      try simp only [Act.put, List.setIfInBounds_toArray, List.set_cons_zero, List.set_cons_succ]
      refine wpAnyH_take (i := 9) (oi := ⟨some 3, _, _, _, _, _⟩) (v := ?v9n14) rfl (by kernel_rfl) (by kernel_rfl) (by kernel_rfl) (fun _ _ _ h => h) (Or.inl ⟨by rfl, ?y9n14⟩) hHeld ?r9n14
      case y9n14 => ((intro wq hSw); go_simp; try with_reducible rfl)
      try simp only [Act.put, List.setIfInBounds_toArray, List.set_cons_zero, List.set_cons_succ]
      refine wpAnyH_done (by kernel_rfl) ?_ _
      go_wp2_with fail
      refine bodyPost_ret (v := .tuple #[.agg #[.int .i64 0, .int .i64 0, .slice none 0 0], .int .i64 (R.2 : Nat)]) (by rw [results_cell_tmp rfl]; go_simp) rfl ?_
      exact ⟨((HB9.out.setCell (p := ⟨w.heap.size, 0, none⟩) (Nat.le_refl _) _).setCell (p := ⟨w.heap.size, 1, none⟩) (Nat.le_refl _) _).setCell (p := ⟨w.heap.size, 2, none⟩) (Nat.le_refl _) _, .inr ⟨h0, rfl⟩⟩
  have hGG := HG.out
  rw [if_neg hk12, bmRows_eq] at hGG
  obtain ⟨V, hV⟩ : ∃ V, V = bmWide W bits := ⟨_, rfl⟩
  obtain ⟨hV1, hV2⟩ := wide_le hW2.2 HFI.out.1
  rw [← hV] at hGG hV1
  have hVb : W * bits ≤ 8 * V := by
    rw [hV, bmWide]
    omega
  have hb32 : bits ≤ 32 ∧ 1 ≤ bits := by
    have := HFI.out.1
    unfold bits6 at this
    omega
  obtain ⟨M1, hM1⟩ : ∃ M1, M1 = W * bits := ⟨_, rfl⟩
  have hMI : (W : Int) * (bits : Int) = (M1 : Int) := by rw [hM1]; simp
  have hM1b : M1 ≤ 8192 ∧ 1 ≤ M1 := by
    have : 1 * 1 ≤ W * bits := Nat.mul_le_mul hW2.1 hb32.2
    omega
  obtain ⟨W4, hW4⟩ : ∃ W4, W4 = (M1 + 31) / 32 := ⟨_, rfl⟩
  have hr1 : ((M1 : Int) + 31) / 32 = (W4 : Int) := by omega
  have hr0 : Int.tdiv ((M1 : Int) + 31) 32 = (W4 : Int) := by rw [Int.tdiv_eq_ediv_of_nonneg (by omega), hr1]
  have hVe : V = W4 * 4 := by rw [hV, bmWide, ← hM1, hW4]
  have hr2 : (W4 : Int) * 4 = (V : Int) := by omega
  have hW4b : W4 ≤ 300 ∧ 1 ≤ W4 := by omega
  obtain ⟨T, hT⟩ : ∃ T, T = V * H := ⟨_, rfl⟩
  have hTb : T ≤ 1024 * 256 := by rw [hT]; exact Nat.mul_le_mul hV1 hH2.2
  have hTI : (V : Int) * (H : Int) = (T : Int) := by rw [hT]; simp
  have hT1 : 1 ≤ T := by
    have : 1 * 1 ≤ V * H := Nat.mul_le_mul (show 1 ≤ V by omega) hH2.1
    omega
  rw [← hT] at hGG
  have HVV := Lib.hid hV
  have HT := Lib.hid hT
  have HVB := Lib.hid hVb
  have hV0 : 1 ≤ V := by omega
  obtain ⟨D, hD⟩ : ∃ D, D = m - o := ⟨_, rfl⟩
  rw [← hD] at hGG RL
  have HGG := Lib.hid hGG
  have hDb : D ≤ 262144 := by omega
  have HDE := Lib.hid hD
  have k0 : w3.cell? ⟨xb, 0, none⟩ = some (.int .i64 (W : Nat)) := hp_cell HX3.out rfl
  have k1 : w3.cell? ⟨xb, 1, none⟩ = some (.int .i64 (H : Nat)) := hp_cell HX3.out rfl
  have k2 : w3.cell? ⟨xb, 2, none⟩ = some (.int .i64 (bits : Nat)) := hp_cell HX3.out rfl
  have HK12 := Lib.hid hk12
  clear hGG hV hVb hM1 hW4 hVe hT hD HG hk12
  go_upto_region 4 with fail
  go_cut [34] from 29 to 34 (fun s wx => s = .bool false ∧ wx = w3)
  case first =>
    have q1 : ((K : Int) == 1) = false := beq_eq_false_iff_ne.2 (by have := HK12.out; omega)
    have q2 : ((K : Int) == 2) = false := beq_eq_false_iff_ne.2 (by have := HK12.out; omega)
    go_wp2_with fail
    go_meet
    exact ⟨rfl, rfl⟩
  case rest =>
  obtain ⟨rfl, hwc⟩ := hcut
  obtain rfl : w3 = wc := hwc.symm
  clear hwc k3
  go_upto_region 7 with fail
  clear hMI hr1 hr0 hr2
  obtain ⟨B2, hB2⟩ : ∃ B2, B2 = (if cap = o then A else A.map (·.add o)) := ⟨_, rfl⟩
  rw [← hB2] at RL
  have HB2E := Lib.hid hB2
  clear hB2
  go_cut [7] from 51 to 54 (fun s wx => s = .slice B2 D (cap - o) ∧ wx = w3)
  case first =>
    have hRL := RL w3
    go_wp2_with fail
    go_meet
    exact ⟨rfl, rfl⟩
  case rest =>
  obtain ⟨rfl, hwc⟩ := hcut
  obtain rfl : w3 = wc := hwc.symm
  clear hwc RL
  have hGG := HGG.out
  by_cases hsh : D < T
  · have t1 : decide ((D : Int) < (T : Int)) = true := decide_eq_true (by omega)
    rw [if_pos hsh] at hGG
    have HRR := Lib.hid hGG
    clear hGG HGG
    have r0 := hp_cell (j := 0) HR3.out rfl
    have r1 := hp_cell (j := 1) HR3.out rfl
    have r2 := hp_cell (j := 2) HR3.out rfl
    have rf := hp_froz HR3.out
    go_wp2_with fail
    refine bodyPost_ret (v := .tuple #[.agg #[.int .i64 0, .int .i64 0, .slice none 0 0], .int .i64 2]) (by rw [results_cell_tmp rfl]; go_simp) rfl ?_
    exact bp_bad (k := 2) HRR.out (by decide) HB3.out _ _ _
  have t1 : decide ((D : Int) < (T : Int)) = false := decide_eq_false (by omega)
  rw [if_neg hsh] at hGG
  have HG2 := Lib.hid hGG
  clear hGG HGG
  have hco : ¬cap = o := by have := HDE.out; omega
  obtain ⟨bk, of, rfl, hbk, hcl⟩ := HY3.out (by omega)
  have hbkw : bk < w.heap.size := HAB.out (by omega) _ rfl
  have hB2 : B2 = some ⟨bk, of + o, none⟩ := by rw [HB2E.out, if_neg hco]; simp [Addr.add]
  subst hB2
  obtain ⟨RC, hRC⟩ : ∃ RC, RC = cap - o := ⟨_, rfl⟩
  rw [← hRC]
  have hRCD : D ≤ RC := by have := HDE.out; omega
  have HRC : Hid (RC ≤ maxLen) := Lib.hid (by have := HCP.out; omega)
  have hRCb : RC ≤ 9223372036854775807 := by omega
  clear hcl hRC HB2E
  go_wp2_with fail
  refine (new_ref (W : Nat) (H : Nat) (by unfold In64; omega) (by unfold In64; omega) _).mono ?_
  rintro e w4 ⟨hB4, ⟨_, v, rfl, hown⟩ | ⟨h, _⟩⟩
  rotate_left
  · exact absurd HZ.out h
  have h4N : (4 * (W : Int) * (H : Int)).toNat = 4 * (W * H) := by
    have h1 : (W : Int) * (H : Int) = ((W * H : Nat) : Int) := by simp
    rw [Int.mul_assoc, h1]
    omega
  obtain ⟨n4, hn4⟩ : ∃ n4, n4 = 4 * (W * H) := ⟨_, rfl⟩
  rw [h4N, ← hn4, zeros_16] at hown
  obtain ⟨A', cap', rfl, hn', hc', _, hO⟩ := NewRow.of_row hown
  have hAr : ∀ k, 0 < n4 → A' = some ⟨k, 0, none⟩ → k ≠ w4.heap.size := fun k h0 hk => Nat.ne_of_lt (hO.lt k h0 hk).2
  have hx1 : xb + 1 ≤ w3.heap.size := lt_heap HX3.out
  have hal3 : Below w4.heap.size w4 (w4.alloc (.cells #[.int .i64 (W : Nat), .int .i64 (H : Nat), .slice A' n4 cap'] 26)) := (Below.refl _ w4).alloc (Nat.le_refl _) _
  have hB5 := hB4.trans (hal3.mono hB4.size)
  have HMAY : Hid (mayB (W : Nat) (H : Nat) n4 = true) := Lib.hid (by
    rw [mayB, decide_eq_true_eq]
    refine ⟨HZ.out, ?_⟩
    rw [hn4, Int.mul_assoc]
    simp)
  have HCX := Lib.hid hc'
  have HN4 := Lib.hid hn4
  have HS5 : Hid (BpS w xb w4.heap.size W H n4 cap' A' (infoC (W : Nat) (H : Nat) bits K o dn f (.slice AC n cc)) (some ⟨bk, of, none⟩) m d AC n cc L noB (w4.alloc (.cells #[.int .i64 (W : Nat), .int .i64 (H : Nat), .slice A' n4 cap'] 26))) := Lib.hid ⟨hp_below HX3.out hB5 (lt_heap HX3.out), hp_below HR3.out hB5 (lt_heap HR3.out), hp_new0 _ _, (hO.le (by omega)).below hal3, HY3.out.below hB5, HC3.out.below hB5, HB3.out.trans (hB5.mono HB3.out.size), fun _ => HAB.out (by omega), HCB.out, hAr, hxw⟩
  clear hB4 hB5 hal3 hown h4N hn4 hO hAr HX3 HX4 HR3 HY3 HC3 HB3 k0 k1 k2 k4 hx1 HAB HCB hbk
  go_upto_region 11 with fail
  obtain ⟨rb, hrb⟩ : ∃ rb, rb = w4.heap.size := ⟨_, rfl⟩
  generalize w4.alloc (.cells #[.int .i64 (W : Nat), .int .i64 (H : Nat), .slice A' n4 cap'] 26) = w5 at *
  rw [← hrb] at HS5 ⊢
  clear hrb t1
  go_wp2_with fail
  go_loopw [10] (fun s10 wr => ∃ (k : Nat) (ck : Nat → Nat), k ≤ H ∧ s10 = .int .i64 (k : Nat) ∧ BpS w xb rb W H n4 cap' A' (infoC (W : Nat) (H : Nat) bits K o dn f (.slice AC n cc)) (some ⟨bk, of, none⟩) m d AC n cc L ck wr ∧ Hid (R = rowR (pxR d W bits o f L) (posR W H dn) (W * H - k * W) (k * W) ck)) (fun s10 _ => H - (intOf s10).toNat)
  case atStart => exact ⟨0, noB, by omega, rfl, HS5.out, by rw [Nat.zero_mul, Nat.sub_zero]; exact HG2⟩
  case round =>
    clear HS5 HG2
    obtain ⟨k, ck, hk, rfl, hS, hR⟩ := hrel
    have HS := Lib.hid hS
    clear hS
    have k1 : wr.cell? ⟨xb, 1, none⟩ = some (.int .i64 (H : Nat)) := hp_cell HS.out.box rfl
    by_cases hlt : k < H
    · have tk : decide ((k : Int) < (H : Int)) = true := by simp; omega
      obtain ⟨p1, hp1⟩ : ∃ p1, p1 = k * V := ⟨_, rfl⟩
      have hp2 : (k + 1) * V = p1 + V := by rw [Nat.add_mul, Nat.one_mul, hp1]
      have hpT : p1 + V ≤ T := by rw [← hp2, HT.out, Nat.mul_comm V H]; exact Nat.mul_le_mul_right V (by omega)
      have i1 : (k : Int) * (V : Int) = (p1 : Int) := by rw [hp1]; simp
      have i2 : ((k : Int) + 1) * (V : Int) = ((p1 + V : Nat) : Int) := by rw [← hp2]; simp
      have i3 : (((p1 + V : Nat) : Int) - (p1 : Int)).toNat = V := by omega
      have i4 : p1 + V - p1 = V := by omega
      obtain ⟨y, hy⟩ : ∃ y, y = bmY H dn k := ⟨_, rfl⟩
      have hyH : y < H := by
        rw [hy]
        unfold bmY
        split <;> omega
      obtain ⟨y0, hy0⟩ : ∃ y0, y0 = H - 1 - k := ⟨_, rfl⟩
      have z1 : (H : Int) - 1 - (k : Int) = (y0 : Int) := by omega
      have HYE := Lib.hid hy
      have HY0 := Lib.hid hy0
      have HP1 := Lib.hid hp1
      have k5 : wr.cell? ⟨xb, 5, none⟩ = some (.bool dn) := hp_cell HS.out.box rfl
      have hkx : RC - p1 ≠ 0 := by omega
      have hcp1 : ¬RC = p1 := by omega
      clear hy hy0 hp1 hp2
      go_upto_if 92 with fail
      rw [i4]
      clear i1 i2 i3 i4 k1 k5 z1
      go_cut [12] from 93 to 93 (fun s wx => s = .int .i64 (y : Nat) ∧ wx = wr)
      case first =>
        cases dn with
        | true =>
          have HV3 : Hid (k = y) := Lib.hid (by rw [HYE.out]; rfl)
          go_wp2_with fail
          go_meet
          exact ⟨by rw [← HV3.out], rfl⟩
        | false =>
          have HV3 : Hid (y0 = y) := Lib.hid (by rw [HYE.out, HY0.out]; rfl)
          go_wp2_with fail
          go_meet
          exact ⟨by rw [← HV3.out], rfl⟩
      case rest =>
      obtain ⟨rfl, hwc⟩ := hcut
      obtain rfl : wr = wc := hwc.symm
      clear hwc
      go_wp2_with fail
      go_loopw [13] (fun s13 wx => ∃ (i : Nat) (ck1 : Nat → Nat), i ≤ W ∧ s13 = .int .i64 (i : Nat) ∧ BpS w xb rb W H n4 cap' A' (infoC (W : Nat) (H : Nat) bits K o dn f (.slice AC n cc)) (some ⟨bk, of, none⟩) m d AC n cc L ck1 wx ∧ Hid (R = rowR (pxR d W bits o f L) (posR W H dn) (W * H - (k * W + i)) (k * W + i) ck1)) (fun s13 _ => W - (intOf s13).toNat)
      case atStart => exact ⟨0, ck, by omega, rfl, HS.out, by rw [Nat.add_zero]; exact hR⟩
      case round =>
        clear HS hR
        obtain ⟨i, ck1, hi, rfl, hS, hR⟩ := hrel
        have HS := Lib.hid hS
        clear hS
        have k0 : wr.cell? ⟨xb, 0, none⟩ = some (.int .i64 (W : Nat)) := hp_cell HS.out.box rfl
        by_cases hiW : i < W
        · have ti : decide ((i : Int) < (W : Int)) = true := by simp; omega
          have hR2 := hR.out
          obtain ⟨t, ht⟩ : ∃ t, t = k * W + i := ⟨_, rfl⟩
          have htb : t + 1 ≤ W * H := by
            have h1 := Nat.mul_le_mul_right W (show k + 1 ≤ H by omega)
            rw [Nat.add_mul, Nat.one_mul, Nat.mul_comm H W] at h1
            omega
          have hpx : pxR d W bits o f L t = bmPx d bits f L (o + p1) i := by rw [ht, pxR_at hiW, ← HVV.out, HP1.out]
          have hps : posR W H dn t = y * W + i := by rw [ht, posR_at hiW, HYE.out]
          rw [← ht, show W * H - t = (W * H - (t + 1)) + 1 by omega] at hR2
          have hnone : bmPx d bits f L (o + p1) i = none → R = (noB, 4) := fun h => by rw [hR2]; exact rowR_no (by rw [hpx]; exact h)
          have hsome : ∀ P, bmPx d bits f L (o + p1) i = some P → R = rowR (pxR d W bits o f L) (posR W H dn) (W * H - (t + 1)) (t + 1) (setC ck1 (y * W + i) P) := fun P h => by
            rw [hR2, rowR_yes (by rw [hpx]; exact h), hps]
          have HNO := Lib.hid hnone
          have HSO := Lib.hid hsome
          have HTE := Lib.hid ht
          have hal : Below wr.heap.size wr (wr.alloc (.cells #[.int .u16 0, .int .u16 0, .int .u16 0, .int .u16 0] 43)) := (Below.refl _ wr).alloc (Nat.le_refl _) _
          have HPB0 : Hid (PxB xb rb n4 A' wr.heap.size #[.int .u16 0, .int .u16 0, .int .u16 0, .int .u16 0] (wr.alloc (.cells #[.int .u16 0, .int .u16 0, .int .u16 0, .int .u16 0] 43))) := Lib.hid ⟨hp_new0 _ _, lt_heap HS.out.box, fun e => by have := lt_heap HS.out.ras; omega, fun h0 e => by have := (HS.out.own.lt _ h0 e).2; omega⟩
          have HSP := Lib.hid (HS.out.below hal)
          have HRBY : Hid (Byt (wr.alloc (.cells #[.int .u16 0, .int .u16 0, .int .u16 0, .int .u16 0] 43)) (some ⟨bk, of + o + p1, none⟩) V (fun j => d (o + p1 + j))) := Lib.hid (fun _ => by
            obtain ⟨bk', of', hbe, hb9, hcl⟩ := HSP.out.arg (by omega)
            cases hbe
            refine ⟨bk, of + o + p1, rfl, hb9, fun j hj => ?_⟩
            have h := hcl (o + p1 + j) (by have := HDE.out; omega)
            rw [show of + (o + p1 + j) = of + o + p1 + j by omega] at h
            exact h)
          have k2 : (wr.alloc (.cells #[.int .u16 0, .int .u16 0, .int .u16 0, .int .u16 0] 43)).cell? ⟨xb, 2, none⟩ = some (.int .i64 (bits : Nat)) := hp_cell HSP.out.box rfl
          have hiV : i * bits + bits ≤ 8 * V := by
            have h1 := Nat.mul_le_mul_right bits (show i + 1 ≤ W by omega)
            rw [Nat.add_mul, Nat.one_mul] at h1
            have := HVB.out
            omega
          clear hR hR2 ht hpx hps hnone hsome hal HS
          go_upto_block 4 with fail
          clear k0 k2
          obtain ⟨pb, hpb⟩ : ∃ pb, pb = wr.heap.size := ⟨_, rfl⟩
          rw [← hpb] at HPB0 ⊢
          generalize wr.alloc (.cells #[.int .u16 0, .int .u16 0, .int .u16 0, .int .u16 0] 43) = wa at *
          clear hpb
          refine px_any W H bits K o n4 cap' xb rb pb V (RC - p1) (o + p1) A' dn f AC n cc L (some ⟨bk, of, none⟩) bk (of + o + p1) m cap d HD HFL HLN hcl hW2.2 hV1 (by omega) (Lib.hid (by have := HRC.out; omega)) (by have := HDE.out; omega) w R HFI.out.1 y i ck1 hiW hiV HNO.out wa HSP HPB0 HRBY (by omega) _ ?hret _ _ _ _ _ _ _ _ _ _ _ _ _ _ _ _ _ _ _ _ _ _ _ _ _ _ _ _ _ _ _ _ _ _ _ _ _ _ _ _ _ _ _ _ _ _ _ _ _ _ _ _ _ _ _ _ _ _ _ _ _ _ _ _ _ _ _ _ _ _ _ _ _ _ _ _ _ _ _ _ _ _ _ _ _ _ _ _ _ _ _ _ _ _ _ _ _ _ _ _ _ _ _ _ _ _ _ _ _ _ _ _ _ _ _ _ _ _ _ _ _ _ _ _ _ _ _ _ _ _ _ _ _ _ _ _ _ _ _ _ _ _ _ _ _ _ _ _ _ _ _ _ _ _ _ _ _ _ _ _ _ _ _ _ _ _ _ _ _ _ ?hnorm
          case hret => exact fun a w' h => h
          intro P hP w7 u3 u15 u16 u17 u102 u103 u104 u105 u106 u107 u108 u109 u110 u111 u112 u113 u114 u115 u116 u117 u118 u119 u120 u121 u122 u123 u124 u125 u126 u127 u128 u129 u130 u131 u132 u133 u134 u135 u136 u137 u138 u139 u140 u141 u142 u143 u144 u145 u146 u147 u148 u149 u150 u151 u152 u153 u154 u155 u156 u157 u158 u159 u160 u161 u162 u163 u164 u165 u166 u167 u168 u169 u170 u171 u172 HS7 HP7
          have HRN := Lib.hid (HSO.out P hP)
          dsimp only [Exit.then, Exit.inBlock]
          have a0 := hp_cell (j := 0) HS7.out.ras rfl
          have a1 := hp_cell (j := 1) HS7.out.ras rfl
          have a2 := hp_cell (j := 2) HS7.out.ras rfl
          have b0 := hp_cell (j := 0) HP7.out.hd rfl
          have b1 := hp_cell (j := 1) HP7.out.hd rfl
          have b2 := hp_cell (j := 2) HP7.out.hd rfl
          have b3 := hp_cell (j := 3) HP7.out.hd rfl
          clear HNO HSO HPB0 HSP HRBY hiV hP
          go_wp2_with fail
          refine (setr_any (W : Nat) (H : Nat) A' n4 cap' ck1 (i : Nat) (y : Nat) P (by unfold In64; omega) (by unfold In64; omega) hn' HCX.out _ HS7.out.own).mono ?_
          rintro e w10 hset
          have hS10 := HS7.out.put hset
          obtain ⟨rfl, -, -, -⟩ := hset
          have hsd : setD (W : Nat) (H : Nat) n4 ck1 (i : Nat) (y : Nat) P = setC ck1 (y * W + i) P := by
            unfold setD
            rw [if_pos (inB_xy HMAY.out hiW hyH)]
            congr 1
          rw [hsd] at hS10
          have HS10 := Lib.hid hS10
          clear hS10 hsd HS7 HP7
          go_wp2_with fail
          go_roundw
          case rel => exact ⟨i + 1, _, hiW, by go_num, HS10.out, by rw [← Nat.add_assoc, ← HTE.out]; exact HRN⟩
          case measure => simp [intOf]; omega
        · obtain rfl : W = i := by omega
          have HR9 : Hid (R = rowR (pxR d W bits o f L) (posR W H dn) (W * H - (k + 1) * W) ((k + 1) * W) ck1) := Lib.hid (by rw [Nat.add_mul, Nat.one_mul]; exact hR.out)
          clear hR
          go_wp2_with fail
          go_roundw
          case rel => exact ⟨k + 1, ck1, hlt, by go_num, HS.out, HR9⟩
          case measure => simp [intOf]; omega
    · obtain rfl : k = H := by omega
      have hR2 := hR.out
      rw [Nat.mul_comm W k, Nat.sub_self, rowR_0] at hR2
      have HRR := Lib.hid hR2
      clear hR hR2
      have a0 := hp_cell (j := 0) HS.out.ras rfl
      have a1 := hp_cell (j := 1) HS.out.ras rfl
      have a2 := hp_cell (j := 2) HS.out.ras rfl
      have r0 := hp_cell (j := 0) HS.out.res rfl
      have r1 := hp_cell (j := 1) HS.out.res rfl
      have r2 := hp_cell (j := 2) HS.out.res rfl
      have rf := hp_froz HS.out.res
      go_wp2_with fail
      refine bodyPost_ret (v := .tuple #[.agg #[.int .i64 (W : Nat), .int .i64 (k : Nat), .slice A' n4 cap'], .int .i64 0]) (by rw [results_cell_tmp rfl]; go_simp) rfl ?_
      refine ⟨((HS.out.bel.setCell (p := ⟨w.heap.size, 0, none⟩) (Nat.le_refl _) _).setCell (p := ⟨w.heap.size, 1, none⟩) (Nat.le_refl _) _).setCell (p := ⟨w.heap.size, 2, none⟩) (Nat.le_refl _) _, .inl ⟨by rw [HRR.out], A', cap', by rw [← HN4.out]; exact hn', HCX.out, by rw [← HN4.out], ?_⟩⟩
      rw [← HN4.out, HRR.out]
      exact (((HS.out.own.set (g := w.heap.size) (by omega) 0 _).set (g := w.heap.size) (by omega) 1 _).set (g := w.heap.size) (by omega) 2 _).le (by omega)
end Go.Proofs.YtdooefnckdklmaaDoor

namespace Go.Proofs.YtdooefnckdklmaaDoor
set_option maxRecDepth 100000
set_option linter.unusedVariables false
open Go.ChangeShapes Go.WideShapes Go.ChangeAt Go.RowKit

theorem putsB_lt (W H : Nat) (cols : List P4) (y : Nat) (g : Nat → Option Nat) : ∀ (k i x : Nat) (c : Nat → Nat), (putsB W H cols y g k i x c).2.2 ≤ 4
  | 0, i, x, c => by unfold putsB; simp
  | k + 1, i, x, c => by
    unfold putsB
    split
    · simp
    · split
      · simp
      · exact putsB_lt W H cols y g k _ _ _
theorem runsB_lt (b : Nat → Nat) (n W H kind : Nat) (cols : List P4) : ∀ (K p x y : Nat) (c : Nat → Nat), (runsB b n W H kind cols K p x y c).2 ≤ 4
  | 0, p, x, y, c => by unfold runsB; simp
  | K + 1, p, x, y, c => by
    unfold runsB
    repeat' split
    all_goals first | exact runsB_lt b n W H kind cols K _ _ _ _ | exact putsB_lt .. | (dsimp only; exact putsB_lt ..) | (simp; done) | (dsimp only; omega)
theorem ite_le6 {p : Prop} [Decidable p] {a b k : Nat} (ha : a ≤ k) (hb : b ≤ k) : (if p then a else b) ≤ k := by split <;> assumption
theorem bmErr_lt (b : Nat → Nat) (n : Nat) : bmErr b n ≤ 6 := by
  unfold bmErr
  repeat' refine ite_le6 (by decide) ?_
  decide
theorem bmG_lt (b : Nat → Nat) (n : Nat) : (bmG b n).2 < 1000 := by
  unfold bmG
  split
  · have := bmErr_lt b n
    dsimp only
    omega
  · split
    · exact Nat.lt_of_le_of_lt (runsB_lt ..) (by omega)
    · unfold bmRows
      split
      · simp
      · split <;> simp
theorem bm_pic {d : Nat → Nat} {r : (Nat → Nat) × Nat} {w : World} {e : Ending} {w' : World} (h : bmPost d r w e w') : picPost (bmW d).toNat (bmH d).natAbs r w e w' ∧ (r.2 = 0 → sizeE ((bmW d).toNat : Nat) ((bmH d).natAbs : Nat) = 0) := by
  obtain ⟨hB, ⟨h0, hs, A, cap, n4, hn, hc, hx, he, hO⟩ | ⟨h0, he⟩⟩ := h
  · obtain ⟨h1, _⟩ := size_ok hs
    have hW : ((bmW d).toNat : Int) = bmW d := Int.toNat_of_nonneg (by omega)
    have hn2 : n4 = 4 * ((bmW d).toNat * (bmH d).natAbs) := by
      have h2 : (n4 : Int) = ((4 * ((bmW d).toNat * (bmH d).natAbs) : Nat) : Int) := by
        rw [hn, Int.natCast_mul, Int.natCast_mul, hW, Int.mul_assoc]
        rfl
      exact_mod_cast h2
    subst hn2
    rw [hW]
    refine ⟨⟨hB, .inl ⟨h0, A, cap, hc, hx, ?_, hO⟩⟩, fun _ => hs⟩
    rw [hW]
    exact he
  · exact ⟨⟨hB, .inr ⟨h0, he⟩⟩, fun h => absurd h h0⟩
set_option maxRecDepth 100000 in
set_option maxHeartbeats 8000000 in
theorem decodes_walk18 (A : Option Addr) (n cap : Nat) (b : Nat → Nat) (hb : ∀ i, b i < 256) (hn : n ≤ cap) (hmax : cap ≤ maxLen) (w : World) (hAb : ∀ a, A = some a → a.block < w.heap.size) (hP : Byt w A n b) (hT : TabW w) :
    Calls Tryd.prog 3 #[.slice A n cap] w fun e w' => e = .returned (.bool true) ∧ Below w.heap.size w w' := by
  have HP := Lib.hid hP
  have HBB := Lib.hid hb
  have HTW := Lib.hid hT
  have HAB := Lib.hid hAb
  have HMX := Lib.hid hmax
  unfold maxLen at hmax
  clear hP hb hT hAb
  go_enter Tryd.func3, Tryd.ntmps3
  go_wp2_with fail
  refine (awake18 _ HTW.out).mono ?_
  rintro e w1 ⟨rfl, hB1⟩
  have HB1 := Lib.hid hB1
  have HP1 := Lib.hid (HP.out.below hB1)
  clear hB1
  by_cases hbig : 9000 < n
  · have hbg : decide ((9000 : Int) < (n : Int)) = true := decide_eq_true (by omega)
    go_wp2_with fail
    go_ret
    exact ⟨rfl, HB1.out⟩
  have hbg : decide ((9000 : Int) < (n : Int)) = false := decide_eq_false (by omega)
  go_wp2_with fail
  have hD := (decode_b A n cap b HBB.out hn HMX.out w1 (fun a ha => Nat.lt_of_lt_of_le (HAB.out a ha) HB1.out.size) HP1.out (HTW.out.below HB1.out)).mono (fun _ _ h => bm_pic h)
  have REF : ∀ wr, Byt wr A n b → Calls Tryd.prog 12 #[.slice A n cap] wr (picPost (bmW b).toNat (bmH b).natAbs (bmG b n) wr) := fun wr h => bmp_any A n cap b HBB.out hn HMX.out wr h
  have hlt : (bmG b n).2 < 1000 := bmG_lt b n
  have hXB : sizeE ((bmW b).toNat : Nat) ((bmH b).natAbs : Nat) = 0 → (bmW b).toNat ≤ 256 ∧ (bmH b).natAbs ≤ 256 := fun h => by
    obtain ⟨_, h1, _, h2, _⟩ := size_ok h
    omega
  refine hD.mono ?_
  clear hD
  generalize (bmW b).toNat = X at *
  generalize (bmH b).natAbs = Y at *
  generalize bmG b n = q at *
  obtain ⟨d, x⟩ := q
  dsimp only at hlt REF ⊢
  have HREF := Lib.hid REF
  have HXB := Lib.hid hXB
  clear REF hXB
  rintro e w2 ⟨⟨hB2, ⟨h0, A2, cap2, k1, k2, rfl, hO⟩ | ⟨h0, rfl⟩⟩, hsm⟩
  · dsimp only at h0
    subst h0
    have hs := hsm rfl
    obtain ⟨hX2, hY2⟩ := HXB.out hs
    clear hsm
    have hm : mayB (X : Nat) (Y : Nat) (4 * (X * Y)) = true := by
      unfold mayB
      exact decide_eq_true ⟨hs, by simp [Int.mul_assoc]⟩
    have hal : Below w2.heap.size w2 (w2.alloc (.cells #[.int .i64 (X : Nat), .int .i64 (Y : Nat), .slice A2 (4 * (X * Y)) cap2] 26)) := (Below.refl _ w2).alloc (Nat.le_refl _) _
    have HQ := Lib.hid (hp_new0 w2 (.cells #[.int .i64 (X : Nat), .int .i64 (Y : Nat), .slice A2 (4 * (X * Y)) cap2] 26))
    have HO := Lib.hid (hO.below hal)
    have hB3 := hB2.trans (hal.mono hB2.size)
    have HP3 := Lib.hid (HP1.out.below hB3)
    have HB3 := Lib.hid (HB1.out.trans (hB3.mono HB1.out.size))
    have HMB := Lib.hid hm
    clear hal hO hB2 hB3 hs hm
    go_wp2_with fail
    generalize w2.alloc (.cells #[.int .i64 (X : Nat), .int .i64 (Y : Nat), .slice A2 (4 * (X * Y)) cap2] 26) = w3 at *
    refine (HREF.out _ HP3.out).mono ?_
    rintro e w4 ⟨hB4, ⟨_, A4, cap4, k3, k4, rfl, hO4⟩ | ⟨h0, _⟩⟩
    rotate_left
    · exact absurd rfl h0
    have hal : Below w4.heap.size w4 (w4.alloc (.cells #[.int .i64 (X : Nat), .int .i64 (Y : Nat), .slice A4 (4 * (X * Y)) cap4] 26)) := (Below.refl _ w4).alloc (Nat.le_refl _) _
    have hB5 := hB4.trans (hal.mono hB4.size)
    have hQ5 := hp_below HQ.out hB5 (lt_heap HQ.out)
    have hR5 := hp_new0 w4 (.cells #[.int .i64 (X : Nat), .int .i64 (Y : Nat), .slice A4 (4 * (X * Y)) cap4] 26)
    have HO5 := Lib.hid (HO.out.below hB5).pix
    have HO6 := Lib.hid (hO4.below hal).pix
    have HB5 := Lib.hid (HB3.out.trans (hB5.mono HB3.out.size))
    have q0 := hp_cell (j := 0) hQ5 rfl
    have q1 := hp_cell (j := 1) hQ5 rfl
    have q2 := hp_cell (j := 2) hQ5 rfl
    have r0 := hp_cell (j := 0) hR5 rfl
    have r1 := hp_cell (j := 1) hR5 rfl
    have r2 := hp_cell (j := 2) hR5 rfl
    clear hal hB4 hB5 hQ5 hR5 hO4
    go_wp2_with fail
    refine (same14_ok (X : Nat) (Y : Nat) A2 (4 * (X * Y)) cap2 d (X : Nat) (Y : Nat) A4 (4 * (X * Y)) cap4 d (by unfold In64; omega) (by unfold In64; omega) (by unfold In64; omega) (by unfold In64; omega) k1 k2 k3 k4 _ HO5.out HO6.out).mono ?_
    rintro e w6 ⟨rfl, hB6⟩
    rw [same_self18 d HMB.out]
    have HF := Lib.hid (HB5.out.trans (hB6.mono HB5.out.size))
    clear hB6
    go_wp2
    go_ret
    exact ⟨rfl, HF.out⟩
  · dsimp only at h0 hlt
    clear hsm
    have hal : Below w2.heap.size w2 (w2.alloc (.cells #[.int .i64 0, .int .i64 0, .slice none 0 0] 26)) := (Below.refl _ w2).alloc (Nat.le_refl _) _
    have HQ := Lib.hid (hp_new0 w2 (.cells #[.int .i64 0, .int .i64 0, .slice none 0 0] 26))
    have hB3 := hB2.trans (hal.mono hB2.size)
    have HP3 := Lib.hid (HP1.out.below hB3)
    have HB3 := Lib.hid (HB1.out.trans (hB3.mono HB1.out.size))
    clear hal hB2 hB3
    go_wp2_with fail
    generalize w2.alloc (.cells #[.int .i64 0, .int .i64 0, .slice none 0 0] 26) = w3 at *
    refine (HREF.out _ HP3.out).mono ?_
    rintro e w4 ⟨hB4, ⟨h9, _⟩ | ⟨_, rfl⟩⟩
    · exact absurd h9 h0
    have hal : Below w4.heap.size w4 (w4.alloc (.cells #[.int .i64 0, .int .i64 0, .slice none 0 0] 26)) := (Below.refl _ w4).alloc (Nat.le_refl _) _
    have hB5 := hB4.trans (hal.mono hB4.size)
    have hQ5 := hp_below HQ.out hB5 (lt_heap HQ.out)
    have hR5 := hp_new0 w4 (.cells #[.int .i64 0, .int .i64 0, .slice none 0 0] 26)
    have HB5 := Lib.hid (HB3.out.trans (hB5.mono HB3.out.size))
    have q0 := hp_cell (j := 0) hQ5 rfl
    have q1 := hp_cell (j := 1) hQ5 rfl
    have q2 := hp_cell (j := 2) hQ5 rfl
    have r0 := hp_cell (j := 0) hR5 rfl
    have r1 := hp_cell (j := 1) hR5 rfl
    have r2 := hp_cell (j := 2) hR5 rfl
    clear hal hB4 hB5 hQ5 hR5
    go_wp2_with fail
    refine (same14_err x h0 hlt 0 0 none 0 0 _).mono ?_
    rintro e w6 ⟨rfl, hB6⟩
    have HF := Lib.hid (HB5.out.trans (hB6.mono HB5.out.size))
    clear hB6
    go_wp2
    go_ret
    exact ⟨rfl, HF.out⟩
end Go.Proofs.YtdooefnckdklmaaDoor

namespace Go.Proofs.YtdooefnckdklmaaDoor
set_option maxRecDepth 100000
set_option linter.unusedVariables false
open Go.ChangeShapes Go.WideShapes Go.ChangeAt Go.RowKit

theorem shape_lt {w : World} {r : Nat} {x : TypeId × Nat} (h : w.shape? r = some x) : r < w.heap.size := by
  by_cases hr : r < w.heap.size
  · exact hr
  · unfold World.shape? at h
    rw [Array.getElem?_eq_none (by omega)] at h
    simp at h
theorem blk_in {W : World} {r : Reach} {b0 : Nat} {A : Option Addr} {m cap : Nat} (hv : Value.okWide Tryd.prog W r b0 22 (.slice A m cap)) : ∀ a, A = some a → a.block < W.heap.size := fun a ha => by
  subst ha
  simp only [Value.okWide, Cell.okWide, Cell.ok, Tryd.underlying22] at hv
  obtain ⟨_, _, _, _, row, cells, hs, _⟩ := hv
  exact shape_lt hs
end Go.Proofs.YtdooefnckdklmaaDoor
