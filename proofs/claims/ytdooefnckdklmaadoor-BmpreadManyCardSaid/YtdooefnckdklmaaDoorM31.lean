/- engraverref14.runs: the walk. -/
import Derived.Test.YtdooefnckdklmaaDoorM30

namespace Go.Proofs.YtdooefnckdklmaaDoor
set_option maxRecDepth 100000
set_option linter.unusedVariables false
open Go.ChangeShapes Go.WideShapes Go.ChangeAt Go.RowKit

set_option maxRecDepth 1000000 in
set_option maxHeartbeats 8000000 in
theorem runs_ref (W H bits kind off : Nat) (dn : Bool) (f : Nat → Nat) (AC : Option Addr) (n cc : Nat) (L : List P4) (B : Option Addr) (m cap : Nat) (b : Nat → Nat) (hbt : ∀ i, b i < 256) (hk : kind = 1 ∨ kind = 2) (hW : 1 ≤ W ∧ W ≤ 256) (hH : 1 ≤ H ∧ H ≤ 256) (hz : sizeE (W : Nat) (H : Nat) = 0) (hn : n = L.length) (hn2 : n ≤ 256) (hm : m ≤ 262144) (hmc : m ≤ cap) (hcap : cap ≤ maxLen) (w : World) (hB : Byt w B m b) (hL : Sl w (.slice AC n cc) 4 n (cellsP L)) :
    Calls Tryd.prog 27 #[.agg (infoC (W : Nat) (H : Nat) bits kind off dn f (.slice AC n cc)), .slice B m cap] w (picPost W H (runsB b m W H kind L (m + 1) 0 0 0 noB) w) := by
  obtain ⟨R, hR⟩ : ∃ R, R = runsB b m W H kind L (m + 1) 0 0 0 noB := ⟨_, rfl⟩
  rw [← hR]
  have HR := Lib.hid hR
  have HBT := Lib.hid hbt
  have HKD := Lib.hid hk
  have HZE := Lib.hid hz
  have HLN : Hid (L.length = n) := Lib.hid hn.symm
  have HCP := Lib.hid hcap
  unfold maxLen at hcap
  have HAB : Hid (0 < m → ∀ a, B = some a → a.block < w.heap.size) := Lib.hid (fun h0 a ha => by
    obtain ⟨bk, of, h1, h2, _⟩ := hB h0
    rw [h1] at ha
    cases ha
    exact h2)
  have HCB : Hid (0 < n → ∀ a, AC = some a → a.block < w.heap.size) := Lib.hid (fun h0 a ha => by
    obtain ⟨bk, of, h1, h2, _⟩ := hL.cell h0
    rw [h1] at ha
    cases ha
    exact h2)
  obtain ⟨C, hC⟩ : ∃ C, C = infoC (W : Nat) (H : Nat) bits kind off dn f (.slice AC n cc) := ⟨_, rfl⟩
  have hal : Below w.heap.size w (w.alloc (.cells C 70)) := (Below.refl _ w).alloc (Nat.le_refl _) _
  have hX := hp_new0 w (.cells C 70)
  have hal2 := (Below.refl (w.alloc (.cells C 70)).heap.size (w.alloc (.cells C 70))).alloc (Nat.le_refl _) (.cells #[.int .i64 0, .int .i64 0, .slice none 0 0] 26)
  have hRs := hp_new0 (w.alloc (.cells C 70)) (.cells #[.int .i64 0, .int .i64 0, .slice none 0 0] 26)
  rw [show (w.alloc (.cells C 70)).heap.size = w.heap.size + 1 by simp] at hRs
  have HX := Lib.hid (hp_below hX hal2 (lt_heap hX))
  have HRS := Lib.hid hRs
  have HB2 := Lib.hid (hal.trans (hal2.mono hal.size))
  have HBY := Lib.hid ((hB.below hal).below hal2)
  have HCL := Lib.hid ((hL.below hal).below hal2)
  have hbs : (w.alloc (.cells C 70)).heap.size = w.heap.size + 1 := by simp
  clear hR hbt hk hz hn hX hRs hal hal2 hB hL
  rw [hC] at HX HRS HB2 HBY HCL hbs
  unfold infoC at hbs HX HRS HB2 HBY HCL ⊢
  go_enter Tryd.func27, Tryd.ntmps27
  go_upto_region 1 with fail
  have hs2 : ((w.alloc (.cells #[.int .i64 (W : Nat), .int .i64 (H : Nat), .int .i64 (bits : Nat), .int .i64 (kind : Nat), .int .i64 (off : Nat), .bool dn, .int .u32 (f 0 : Nat), .int .u32 (f 1 : Nat), .int .u32 (f 2 : Nat), .int .u32 (f 3 : Nat), .slice AC n cc] 70)).alloc (.cells #[.int .i64 0, .int .i64 0, .slice none 0 0] 26)).heap.size = w.heap.size + 2 := by simp
  generalize (w.alloc (.cells #[.int .i64 (W : Nat), .int .i64 (H : Nat), .int .i64 (bits : Nat), .int .i64 (kind : Nat), .int .i64 (off : Nat), .bool dn, .int .u32 (f 0 : Nat), .int .u32 (f 1 : Nat), .int .u32 (f 2 : Nat), .int .u32 (f 3 : Nat), .slice AC n cc] 70)).alloc (.cells #[.int .i64 0, .int .i64 0, .slice none 0 0] 26) = w2 at *
  clear hC hbs
  have k0 := hp_cell (j := 0) HX.out rfl
  have k1 := hp_cell (j := 1) HX.out rfl
  go_wp2_with fail
  refine (new_ref (W : Nat) (H : Nat) (by unfold In64; omega) (by unfold In64; omega) _).mono ?_
  rintro e w3 ⟨hB3, ⟨_, v, rfl, hown⟩ | ⟨h, _⟩⟩
  rotate_left
  · exact absurd HZE.out h
  have h4N : (4 * (W : Int) * (H : Int)).toNat = 4 * (W * H) := by
    have h1 : (W : Int) * (H : Int) = ((W * H : Nat) : Int) := by simp
    rw [Int.mul_assoc, h1]
    omega
  obtain ⟨n4, hn4⟩ : ∃ n4, n4 = 4 * (W * H) := ⟨_, rfl⟩
  rw [h4N, ← hn4, zeros_16] at hown
  obtain ⟨A', cap', rfl, hn', hc', _, hO⟩ := NewRow.of_row hown
  have hwh : 1 ≤ W * H := Nat.le_trans (Nat.mul_le_mul hW.1 hH.1) (Nat.le_refl _)
  have hAr : ∀ k, 0 < n4 → A' = some ⟨k, 0, none⟩ → k ≠ w3.heap.size := fun k h0 hk => Nat.ne_of_lt (hO.lt k h0 hk).2
  rw [hs2] at hO
  have hal3 : Below w3.heap.size w3 (w3.alloc (.cells #[.int .i64 (W : Nat), .int .i64 (H : Nat), .slice A' n4 cap'] 26)) := (Below.refl _ w3).alloc (Nat.le_refl _) _
  have hB5 := hB3.trans (hal3.mono hB3.size)
  have HMAY : Hid (mayB (W : Nat) (H : Nat) n4 = true) := Lib.hid (by
    rw [mayB, decide_eq_true_eq]
    refine ⟨HZE.out, ?_⟩
    rw [hn4, Int.mul_assoc]
    simp)
  have HCX := Lib.hid hc'
  have HN4 := Lib.hid hn4
  have HS5 : Hid (RuS w w3.heap.size W H n4 cap' A' (infoC (W : Nat) (H : Nat) bits kind off dn f (.slice AC n cc)) B m b AC n cc L noB (w3.alloc (.cells #[.int .i64 (W : Nat), .int .i64 (H : Nat), .slice A' n4 cap'] 26))) := Lib.hid ⟨hp_below HX.out hB5 (lt_heap HX.out), hp_below HRS.out hB5 (lt_heap HRS.out), hp_new0 _ _, (hO.le (Nat.le_succ _)).below hal3, HBY.out.below hB5, HCL.out.below hB5, HB2.out.trans (hB5.mono HB2.out.size), HAB.out, HCB.out, hAr⟩
  clear hB3 hB5 hal3 hown h4N hn4 hO hAr HX HRS HB2 HBY HCL k0 k1 hs2
  go_upto_region 2 with fail
  obtain ⟨rb, hrb⟩ : ∃ rb, rb = w3.heap.size := ⟨_, rfl⟩
  generalize w3.alloc (.cells #[.int .i64 (W : Nat), .int .i64 (H : Nat), .slice A' n4 cap'] 26) = w5 at *
  rw [← hrb] at HS5 ⊢
  clear hrb
  go_wp2_with fail
  go_loopw [8, 9, 10] (fun s8 s9 s10 wr => ∃ (K p x y : Nat) (ck : Nat → Nat), s8 = .int .i64 (p : Nat) ∧ s9 = .int .i64 (x : Nat) ∧ s10 = .int .i64 (y : Nat) ∧ x ≤ W ∧ p ≤ m + 300 ∧ m + 1 ≤ K + p ∧ K ≤ m + 1 ∧ y + K ≤ m + 257 ∧ RuS w rb W H n4 cap' A' (infoC (W : Nat) (H : Nat) bits kind off dn f (.slice AC n cc)) B m b AC n cc L ck wr ∧ Hid (R = runsB b m W H kind L K p x y ck)) (fun s8 _ _ _ => m + 700 - (intOf s8).toNat)
  case atStart => exact ⟨m + 1, 0, 0, 0, noB, rfl, rfl, rfl, by omega, by omega, by omega, by omega, by omega, HS5.out, HR⟩
  case round =>
    clear HS5 HR
    obtain ⟨K, p, x, y, ck, rfl, rfl, rfl, hx, hp, hK, hKm, hy, hS, hE⟩ := hrel
    have HSr := Lib.hid hS
    clear hS
    by_cases hsh : m < p + 2
    · have t1 : decide ((m : Int) - (p : Int) < 2) = true := decide_eq_true (by omega)
      have HE2 : Hid (R = (noB, 2)) := Lib.hid (by rw [hE.out, runs_short hsh])
      clear hE
      have r0 := hp_cell (j := 0) HSr.out.res rfl
      have r1 := hp_cell (j := 1) HSr.out.res rfl
      have r2 := hp_cell (j := 2) HSr.out.res rfl
      have rf := hp_froz HSr.out.res
      go_wp2_with fail
      refine bodyPost_ret (v := .tuple #[.agg #[.int .i64 0, .int .i64 0, .slice none 0 0], .int .i64 2]) (by rw [results_cell_tmp rfl]; go_simp) rfl ?_
      exact ru_bad (k := 2) HE2.out (by decide) HSr.out.bel _ _ _
    have t1 : decide ((m : Int) - (p : Int) < 2) = false := decide_eq_false (by omega)
    obtain ⟨K, rfl⟩ : ∃ K', K = K' + 1 := ⟨K - 1, by omega⟩
    obtain ⟨bk, of, hBe, hbk, hcl⟩ := HSr.out.arg (by omega)
    have c0 := hcl p (by omega)
    have c1 := hcl (p + 1) (by omega)
    obtain ⟨nn, hnn⟩ : ∃ nn, nn = b p := ⟨_, rfl⟩
    obtain ⟨v, hv⟩ : ∃ v, v = b (p + 1) := ⟨_, rfl⟩
    have hnn8 : nn < 256 := by rw [hnn]; exact HBT.out p
    have hv8 : v < 256 := by rw [hv]; exact HBT.out (p + 1)
    rw [← hnn] at c0
    rw [← hv] at c1
    have HNN := Lib.hid hnn
    have HVV := Lib.hid hv
    have i1 : (0 : Int) ≤ (p : Int) := by omega
    have i2 : (p : Int) < (m : Int) := by omega
    have i3 : (0 : Int) ≤ (p : Int) + 1 := by omega
    have i4 : (p : Int) + 1 < (m : Int) := by omega
    have i5 : ((p : Int) + 1).toNat = p + 1 := by omega
    have y1 : IntKind.i64.wrap ((p : Int) + 1) = (p : Int) + 1 := IntWalk.i64_in _ (by omega)
    subst hBe
    clear hcl hnn hv hbk
    go_upto_region 5 with fail
    go_quiet (fail)
    have HS := Lib.hid (HSr.out.drewN nq)
    clear c0 c1 i1 i2 i3 i4 i5 y1 t1 HSr
    generalize wr.drewN nq = w6 at *
    obtain ⟨p2, hp2⟩ : ∃ p2, p2 = p + 2 := ⟨_, rfl⟩
    have y2 : (p : Int) + 2 = (p2 : Int) := by omega
    have hp2b : p2 ≤ m ∧ p + 2 ≤ p2 ∧ p2 ≤ p + 2 := by omega
    have HP2 := Lib.hid hp2
    clear hp2
    by_cases hn0 : 0 < nn
    · have t1 : decide ((0 : Int) < (nn : Int)) = true := decide_eq_true (by omega)
      obtain ⟨R1, hR1⟩ : ∃ R1, R1 = putsB W H L y (fun j => some (nib kind v j)) nn 0 x ck := ⟨_, rfl⟩
      have HRUN : Hid (R = if R1.2.2 ≠ 0 then (noB, R1.2.2) else runsB b m W H kind L K (p + 2) R1.1 y R1.2.1) := Lib.hid (by
        rw [hE.out, runs_run hsh (by rw [← HNN.out]; exact hn0) R1 (by rw [hR1, HNN.out, HVV.out])])
      have HR1 := Lib.hid hR1
      clear hR1 hE
      go_upto_block 5 with fail
      clear t1
      refine runs_A W H bits kind off n4 cap' rb A' dn f AC n cc L bk of m cap b HBT HKD hW hH HLN hn2 hm hmc hcap hn' HCX HMAY w R p2 x y nn v ck hx (by omega) (by omega) hnn8 hv8 R1 HR1 (Lib.hid (fun h => by have h2 := HRUN.out; rwa [if_pos h] at h2)) w6 HS _ ?hret _ _ _ _ _ _ _ _ _ _ _ _ _ _ _ _ _ _ _ _ _ _ _ _ _ _ _ _ _ _ _ _ _ _ _ _ _ _ _ _ _ _ _ _ _ _ _ _ _ _ _ _ _ _ _ _ _ _ _ _ _ _ _ _ _ _ _ _ _ _ _ _ _ _ _ _ _ _ _ _ _ _ _ _ _ _ _ _ _ _ _ _ _ _ _ _ _ _ _ _ _ _ _ _ _ _ _ _ _ _ _ _ _ _ _ _ _ _ _ _ _ _ _ _ _ _ _ _ _ _ _ _ _ _ _ _ _ _ _ _ _ _ _ _ _ _ _ _ _ _ _ _ _ _ _ _ _ _ _ _ _ _ _ _ _ _ _ _ _ _ _ _ _ _ _ _ _ _ _ _ _ _ _ _ _ _ _ _ _ _ _ _ _ _ _ _ _ _ _ _ _ _ _ _ _ _ _ _ _ _ _ _ _ _ _ _ _ _ _ _ _ _ _ _ _ ?hnorm
      case hret => exact fun a w' h => h
      intro x1 ck1 w7 u5 u13 u14 u135 u136 u137 u138 u139 u140 u141 u142 u143 u144 u145 u146 u147 u148 u149 u150 u151 u152 u153 u154 u155 u156 u157 u158 u159 u160 u161 u162 u163 u164 u165 u166 u167 u168 u169 u170 u171 u172 u173 u174 u175 u176 u177 u178 u179 u180 u181 u182 u183 u184 u185 u186 u187 u188 hx1 HS1 HE1
      have hE2 := HE1.out
      have HE3 : Hid (R = runsB b m W H kind L K p2 x1 y ck1) := Lib.hid (by
        have h := HRUN.out
        rw [hE2, ← HP2.out] at h
        simpa using h)
      clear HE1 hE2
      dsimp only [Exit.then, Exit.inBlock]
      go_wp2_with fail
      go_roundw
      case rel => exact ⟨K, p2, x1, y, ck1, rfl, rfl, rfl, hx1, by omega, by omega, by omega, by omega, HS1.out, HE3⟩
      case measure => simp [intOf]; omega
    have t1 : decide ((0 : Int) < (nn : Int)) = false := decide_eq_false (by omega)
    have hb0 : b p = 0 := by rw [← HNN.out]; omega
    by_cases v0 : v = 0
    · have t2 : ((v : Int) == 0) = true := beq_iff_eq.2 (by omega)
      have HE3 : Hid (R = runsB b m W H kind L K p2 0 (y + 1) ck) := Lib.hid (by rw [hE.out, runs_line hsh hb0 (by rw [← HVV.out]; exact v0), ← HP2.out])
      clear hE v0 hb0
      go_wp2_with fail
      go_roundw
      case rel => exact ⟨K, p2, 0, y + 1, ck, rfl, rfl, by go_num, by omega, by omega, by omega, by omega, by omega, HS.out, HE3⟩
      case measure => simp [intOf]; omega
    have t2 : ((v : Int) == 0) = false := beq_eq_false_iff_ne.2 (by omega)
    by_cases v1 : v = 1
    · have t3 : ((v : Int) == 1) = true := beq_iff_eq.2 (by omega)
      have HE3 : Hid (R = (ck, 0)) := Lib.hid (by rw [hE.out, runs_end hsh hb0 (by rw [← HVV.out]; exact v1)])
      have k0 := hp_cell (j := 0) HS.out.ras rfl
      have k1 := hp_cell (j := 1) HS.out.ras rfl
      have k2 := hp_cell (j := 2) HS.out.ras rfl
      have r0 := hp_cell (j := 0) HS.out.res rfl
      have r1 := hp_cell (j := 1) HS.out.res rfl
      have r2 := hp_cell (j := 2) HS.out.res rfl
      have rf := hp_froz HS.out.res
      clear hE v0 v1 hb0
      go_wp2_with fail
      refine bodyPost_ret (v := .tuple #[.agg #[.int .i64 (W : Nat), .int .i64 (H : Nat), .slice A' n4 cap'], .int .i64 0]) (by rw [results_cell_tmp rfl]; go_simp) rfl ?_
      refine ⟨((HS.out.bel.setCell (p := ⟨w.heap.size + 1, 0, none⟩) (Nat.le_succ _) _).setCell (p := ⟨w.heap.size + 1, 1, none⟩) (Nat.le_succ _) _).setCell (p := ⟨w.heap.size + 1, 2, none⟩) (Nat.le_succ _) _, .inl ⟨by rw [HE3.out], A', cap', by rw [← HN4.out]; exact hn', HCX.out, by rw [← HN4.out], ?_⟩⟩
      rw [← HN4.out, HE3.out]
      exact (((HS.out.own.set (g := w.heap.size + 1) (by omega) 0 _).set (g := w.heap.size + 1) (by omega) 1 _).set (g := w.heap.size + 1) (by omega) 2 _).le (by omega)
    have t3 : ((v : Int) == 1) = false := beq_eq_false_iff_ne.2 (by omega)
    by_cases v2 : v = 2
    · have t4 : ((v : Int) == 2) = true := beq_iff_eq.2 (by omega)
      have hE4 := hE.out
      rw [runs_step hsh hb0 (by rw [← HVV.out]; exact v2), ← HP2.out] at hE4
      by_cases hs2 : m < p2 + 2
      · have t5 : decide ((m : Int) - (p2 : Int) < 2) = true := decide_eq_true (by omega)
        rw [if_pos hs2] at hE4
        have HE3 := Lib.hid hE4
        clear hE hE4 v0 v1 v2 hb0
        have r0 := hp_cell (j := 0) HS.out.res rfl
        have r1 := hp_cell (j := 1) HS.out.res rfl
        have r2 := hp_cell (j := 2) HS.out.res rfl
        have rf := hp_froz HS.out.res
        go_wp2_with fail
        refine bodyPost_ret (v := .tuple #[.agg #[.int .i64 0, .int .i64 0, .slice none 0 0], .int .i64 2]) (by rw [results_cell_tmp rfl]; go_simp) rfl ?_
        exact ru_bad (k := 2) HE3.out (by decide) HS.out.bel _ _ _
      have t5 : decide ((m : Int) - (p2 : Int) < 2) = false := decide_eq_false (by omega)
      rw [if_neg hs2] at hE4
      obtain ⟨bk', of', hBe, hbk, hcl⟩ := HS.out.arg (by omega)
      cases hBe
      have c0 := hcl p2 (by omega)
      have c1 := hcl (p2 + 1) (by omega)
      obtain ⟨u0, hu0⟩ : ∃ u0, u0 = b p2 := ⟨_, rfl⟩
      obtain ⟨u1, hu1⟩ : ∃ u1, u1 = b (p2 + 1) := ⟨_, rfl⟩
      have hu08 : u0 < 256 := by rw [hu0]; exact HBT.out p2
      have hu18 : u1 < 256 := by rw [hu1]; exact HBT.out (p2 + 1)
      rw [← hu0] at c0 hE4
      rw [← hu1] at c1 hE4
      have HE4 := Lib.hid hE4
      have i1 : (0 : Int) ≤ (p2 : Int) := by omega
      have i2 : (p2 : Int) < (m : Int) := by omega
      have i3 : (0 : Int) ≤ (p2 : Int) + 1 := by omega
      have i4 : (p2 : Int) + 1 < (m : Int) := by omega
      have i5 : ((p2 : Int) + 1).toNat = p2 + 1 := by omega
      have y1 : IntKind.i64.wrap ((p2 : Int) + 1) = (p2 : Int) + 1 := IntWalk.i64_in _ (by omega)
      obtain ⟨x3, hx3⟩ : ∃ x3, x3 = x + u0 := ⟨_, rfl⟩
      obtain ⟨y3, hy3⟩ : ∃ y3, y3 = y + u1 := ⟨_, rfl⟩
      have g1 : IntKind.i64.wrap ((x : Int) + (u0 : Int)) = (x3 : Int) := by rw [IntWalk.i64_in _ (by omega)]; omega
      have g2 : IntKind.i64.wrap ((y : Int) + (u1 : Int)) = (y3 : Int) := by rw [IntWalk.i64_in _ (by omega)]; omega
      have hx3b : x3 ≤ 1000 ∧ y3 ≤ 1000000 := by omega
      rw [← hx3, ← hy3] at HE4
      have HX3 := Lib.hid hx3
      have HY3 := Lib.hid hy3
      clear hcl hu0 hu1 hE hE4 v0 v1 v2 hb0 hbk hx3 hy3
      go_upto_region 48 with fail
      go_quiet (fail)
      have HS8 := Lib.hid (HS.out.drewN nq)
      clear c0 c1 i1 i2 i3 i4 i5 y1 t1 t2 t3 t4 t5 g1 g2 HS
      generalize w6.drewN nq = w8 at *
      have c0 : w8.cell? ⟨w.heap.size, 0, none⟩ = some (.int .i64 (W : Nat)) := hp_cell HS8.out.box rfl
      have c1 : w8.cell? ⟨w.heap.size, 1, none⟩ = some (.int .i64 (H : Nat)) := hp_cell HS8.out.box rfl
      have hE5 := HE4.out
      by_cases b1 : W < x3
      · have t1 : decide ((W : Int) < (x3 : Int)) = true := decide_eq_true (by omega)
        rw [if_pos (.inl b1)] at hE5
        have HE3 := Lib.hid hE5
        clear hE5
        have r0 := hp_cell (j := 0) HS8.out.res rfl
        have r1 := hp_cell (j := 1) HS8.out.res rfl
        have r2 := hp_cell (j := 2) HS8.out.res rfl
        have rf := hp_froz HS8.out.res
        go_wp2_with fail
        refine bodyPost_ret (v := .tuple #[.agg #[.int .i64 0, .int .i64 0, .slice none 0 0], .int .i64 4]) (by rw [results_cell_tmp rfl]; go_simp) rfl ?_
        exact ru_bad (k := 4) HE3.out (by decide) HS8.out.bel _ _ _
      have t1 : decide ((W : Int) < (x3 : Int)) = false := decide_eq_false (by omega)
      by_cases b2 : H ≤ y3
      · have t2 : decide ((H : Int) ≤ (y3 : Int)) = true := decide_eq_true (by omega)
        rw [if_pos (.inr b2)] at hE5
        have HE3 := Lib.hid hE5
        clear hE5
        have r0 := hp_cell (j := 0) HS8.out.res rfl
        have r1 := hp_cell (j := 1) HS8.out.res rfl
        have r2 := hp_cell (j := 2) HS8.out.res rfl
        have rf := hp_froz HS8.out.res
        go_wp2_with fail
        refine bodyPost_ret (v := .tuple #[.agg #[.int .i64 0, .int .i64 0, .slice none 0 0], .int .i64 4]) (by rw [results_cell_tmp rfl]; go_simp) rfl ?_
        exact ru_bad (k := 4) HE3.out (by decide) HS8.out.bel _ _ _
      have t2 : decide ((H : Int) ≤ (y3 : Int)) = false := decide_eq_false (by omega)
      rw [if_neg (by omega)] at hE5
      have HE3 := Lib.hid hE5
      clear hE5
      go_wp2_with fail
      go_roundw
      case rel => exact ⟨K, p2 + 2, x3, y3, ck, by go_num, rfl, rfl, by omega, by omega, by omega, by omega, by omega, HS8.out, HE3⟩
      case measure => simp [intOf]; omega
    have t4 : ((v : Int) == 2) = false := beq_eq_false_iff_ne.2 (by omega)
    obtain ⟨R1, hR1⟩ : ∃ R1, R1 = putsB W H L y (oneB m kind p2 b) v 0 x ck := ⟨_, rfl⟩
    have HRUN : Hid (R = if R1.2.2 ≠ 0 then (noB, R1.2.2) else runsB b m W H kind L K (p2 + (usedB kind v + usedB kind v % 2)) R1.1 y R1.2.1) := Lib.hid (by
      rw [hE.out, runs_one hsh hb0 (by rw [← HVV.out]; omega) R1 (by rw [hR1, HVV.out, HP2.out]), ← HVV.out, HP2.out])
    have HR1 := Lib.hid hR1
    clear hR1 hE
    go_upto_block 3 with fail
    clear t1 t2 t3 t4
    refine runs_B W H bits kind off n4 cap' rb A' dn f AC n cc L bk of m cap b HBT HKD hW hH HLN hn2 hm hmc hcap hn' HCX HMAY w R p2 x y nn v ck hx (by omega) (by omega) hnn8 hv8 R1 HR1 (Lib.hid (fun h => by have h2 := HRUN.out; rwa [if_pos h] at h2)) w6 HS _ ?hret2 _ _ _ _ _ _ _ _ _ _ _ _ _ _ _ _ _ _ _ _ _ _ _ _ _ _ _ _ _ _ _ _ _ _ _ _ _ _ _ _ _ _ _ _ _ _ _ _ _ _ _ _ _ _ _ _ _ _ _ _ _ _ _ _ _ _ _ _ _ _ _ _ _ _ _ _ _ _ _ _ _ _ _ _ _ _ _ _ _ _ _ _ _ _ _ _ _ _ _ _ _ _ _ _ _ _ _ _ _ _ _ _ _ _ _ _ _ _ _ _ _ _ _ _ _ _ _ _ _ _ _ _ _ _ _ _ _ _ _ _ _ _ _ _ _ _ _ _ _ _ _ _ _ _ _ _ _ _ _ _ _ _ _ _ _ _ _ _ _ _ _ _ _ _ _ _ _ _ _ _ _ _ _ _ _ _ _ _ _ _ _ _ _ _ _ _ _ _ _ _ _ _ _ _ _ _ _ _ _ _ _ _ _ _ _ _ _ _ _ _ _ _ _ _ _ ?hnorm2
    case hret2 => exact fun a w' h => h
    intro x1 ck1 w7 u5 u15 u16 u17 u46 u47 u48 u49 u50 u51 u52 u53 u54 u55 u56 u57 u58 u59 u60 u61 u62 u63 u64 u65 u66 u67 u68 u69 u70 u71 u72 u73 u74 u75 u76 u77 u78 u79 u80 u81 u82 u83 u84 u85 u86 u87 u88 u89 u90 u91 u92 u93 u94 u95 u96 u97 u98 u99 u100 u101 u102 u103 u104 u105 u106 u107 u108 u109 u110 u111 u112 u113 u114 u115 u116 u117 u118 hx1 HS1 HE1
    have hE2 := HE1.out
    dsimp only [Exit.then, Exit.inBlock]
    obtain ⟨us, hus⟩ : ∃ us, us = usedB kind v := ⟨_, rfl⟩
    have husb : us ≤ 256 := by
      rw [hus]
      unfold usedB
      split <;> omega
    obtain ⟨p3, hp3⟩ : ∃ p3, p3 = p2 + (us + us % 2) := ⟨_, rfl⟩
    have HE3 : Hid (R = runsB b m W H kind L K p3 x1 y ck1) := Lib.hid (by
      have h := HRUN.out
      rw [hE2, ← hus, ← hp3] at h
      simpa using h)
    have HUS := Lib.hid hus
    clear HE1 hE2 hus
    have c3 : w7.cell? ⟨w.heap.size, 3, none⟩ = some (.int .i64 (kind : Nat)) := hp_cell HS1.out.box rfl
    go_upto_if 122 with fail
    clear c3
    go_cut [18] (fun s wx => s = .int .i64 (us : Nat) ∧ wx = w7)
    case first =>
      rcases HKD.out with hk1 | hk2
      · have q1 : ((kind : Int) == 2) = false := beq_eq_false_iff_ne.2 (by omega)
        have HV3 : Hid (v = us) := Lib.hid (by rw [HUS.out, usedB, if_neg (by omega)])
        clear hk1
        go_wp2_with fail
        go_meet
        exact ⟨by rw [HV3.out], rfl⟩
      · have q1 : ((kind : Int) == 2) = true := beq_iff_eq.2 (by omega)
        have g1 : ((v : Int) + 1) / 2 = (us : Int) := by
          have := HUS.out
          rw [usedB, if_pos hk2] at this
          omega
        have g2 : Int.tdiv ((v : Int) + 1) 2 = (us : Int) := by rw [Int.tdiv_eq_ediv_of_nonneg (by omega), g1]
        clear hk2
        go_wp2_with fail
        go_meet
        exact ⟨rfl, rfl⟩
    case rest =>
    obtain ⟨rfl, hwc⟩ := hcut
    obtain rfl : w7 = wc := hwc.symm
    clear hwc
    obtain ⟨r2, hr2⟩ : ∃ r2, r2 = us % 2 := ⟨_, rfl⟩
    have g1 : (us : Int) % 2 = (r2 : Int) := by omega
    have g2 : Int.tmod (us : Int) 2 = (r2 : Int) := by rw [Int.tmod_eq_emod_of_nonneg (by omega), g1]
    obtain ⟨p4, hp4⟩ : ∃ p4, p4 = p2 + us := ⟨_, rfl⟩
    have g3 : (p2 : Int) + (us : Int) = (p4 : Int) := by omega
    have g4 : (p4 : Int) + (r2 : Int) = (p3 : Int) := by omega
    have hp3b : p2 ≤ p3 ∧ p3 ≤ p2 + 257 ∧ p4 ≤ p3 := by omega
    clear hr2 hp4 hp3
    go_wp2_with fail
    go_roundw
    case rel => exact ⟨K, p3, x1, y, ck1, rfl, rfl, rfl, hx1, by omega, by omega, by omega, by omega, HS1.out, HE3⟩
    case measure => simp [intOf]; omega
end Go.Proofs.YtdooefnckdklmaaDoor
