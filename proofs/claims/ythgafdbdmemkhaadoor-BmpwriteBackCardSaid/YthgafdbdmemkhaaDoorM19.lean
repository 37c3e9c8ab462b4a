/- bmpread: table. -/
import Derived.Test.YthgafdbdmemkhaaDoorM18

namespace Go.Proofs.YthgafdbdmemkhaaDoor
set_option maxRecDepth 100000
set_option linter.unusedVariables false
open Go.ChangeShapes Go.WideShapes Go.ChangeAt Go.RowKit

/-- The first i colours of a table that begins at e. -/
def tabB (d : Nat → Nat) (e i : Nat) : List P4 := (List.range i).map fun k => back3 d (e + 4 * k)
theorem tabB_succ (d : Nat → Nat) (e i : Nat) : tabB d e (i + 1) = tabB d e i ++ [back3 d (e + 4 * i)] := by
  unfold tabB
  rw [List.range_succ, List.map_append]
  rfl
theorem tabB_len (d : Nat → Nat) (e i : Nat) : (tabB d e i).length = i := by simp [tabB]
theorem HdS.grown {g m base : Nat} {A : Option Addr} {d : Nat → Nat} {cs : Array Value} {w w' : World} {row : Option Nat} (h : HdS g m A d cs w) (hg : w.grownBy w' row) (hr : ∀ r, row = some r → base ≤ r) (hgb : g < base) (hAb : ∀ a, A = some a → a.block < base) (h0 : 0 < base) : HdS g m A d cs w' ∧ Chg row.toList w w' := by
  have hc : Chg row.toList w w' := Chg.grown hg (fun r e => by rw [e]; simp)
  refine ⟨⟨hp_chg h.hR hc ?_, h.hB.chg hc (fun _ a ha => ?_), h.hT.chg hc ?_⟩, hc⟩
  · intro hm
    have := hr g (by simpa using hm)
    omega
  · intro hm
    have h1 := hr a.block (by simpa using hm)
    have := hAb a ha
    omega
  · intro hm
    have := hr 0 (by simpa using hm)
    omega
theorem chg_row {S : List Nat} {w w1 w2 : World} {row : Option Nat} (h : Chg S w w1) (h2 : Chg row.toList w1 w2) (hr : ∀ r, row = some r → w.heap.size ≤ r) : Chg S w w2 :=
  ⟨h2.os.trans h.os, h2.tape.trans h.tape, h2.output.trans h.output, Nat.le_trans h.size h2.size, fun k hk hn => (h2.block k (Nat.lt_of_lt_of_le hk h.size) (fun hm => by have := hr k (by simpa using hm); omega)).trans (h.block k hk hn)⟩
theorem tab_app (V : World) (base : Nat) (Ac : Option Addr) (i cc : Nat) (L : List P4) (nb x2 x1 x0 : Nat) (hO : V.ownsRow base 45 4 (.slice Ac i cc) i (cellsP L)) (hN : V.heap[nb]? = some (.cells #[.int .u16 ((x2 : Int) * 257), .int .u16 ((x1 : Int) * 257), .int .u16 ((x0 : Int) * 257), .int .u16 65535] 45 (0, 0))) (hi : i < 256) (hb : base ≤ V.heap.size) :
    ∃ v' w', (Builtin.append_ #[51, 51] 51 #[.slice Ac i cc, .slice (some ⟨nb, 0, none⟩) 1 1]).run Tryd.prog V = .ok v' w' ∧ w'.ownsRow base 45 4 v' (i + 1) (cellsP (L ++ [(x2 * 257, x1 * 257, x0 * 257, 65535)])) ∧ V.grownBy w' (Value.slice Ac i cc).ownBlock ∧ (v'.ownBlock = (Value.slice Ac i cc).ownBlock ∨ v'.ownBlock = some V.heap.size) := by
  obtain ⟨i0, hi0, hz0, hz1, hz2⟩ := info_parts info41
  rw [cellsP_snoc]
  exact run_app (P := Tryd.prog) (w := V) base 51 51 45 i0 zero4 4 8 Tryd.underlying51 hi0 hz0 hz1 hz2 rfl (by omega) (.slice Ac i cc) i (cellsP L) hO
    (some ⟨nb, 0, none⟩) 1 1 (cP (x2 * 257, x1 * 257, x0 * 257, 65535)) (by simp) rfl (fun _ => ⟨nb, 0, rfl, fun j u hj => by
      match j, hj with
      | 0, hj => simp [cP] at hj; subst hj; exact hp_cell (j := 0) hN (by simp)
      | 1, hj => simp [cP] at hj; subst hj; exact hp_cell (j := 1) hN (by simp)
      | 2, hj => simp [cP] at hj; subst hj; exact hp_cell (j := 2) hN (by simp)
      | 3, hj => simp [cP] at hj; subst hj; exact hp_cell (j := 3) hN (by simp)
      | j + 4, hj => simp [cP] at hj⟩) (by intro u hu; simp [cP] at hu; rcases hu with rfl | rfl | rfl | rfl <;> rfl) (by unfold maxLen; omega) (by omega) hb
theorem back_q {d : Nat → Nat} {e1 i q x2 x1 x0 : Nat} (hq : q = e1 + 4 * i) (h : d (q + 2) = x2 ∧ d (q + 1) = x1 ∧ d (q + 0) = x0) : ((x2 * 257, x1 * 257, x0 * 257, 65535) : P4) = back3 d (e1 + 4 * i) := by
  obtain ⟨rfl, rfl, rfl⟩ := h
  rw [← hq]
  rfl
/-- What is wrong with a table of U colours at e. -/
def tabE (bits U e m : Nat) : Nat := if 2 ^ bits < U then 4 else if m < e + 4 * U then 2 else 0
def usedU (bits used : Nat) : Nat := if used = 0 then 2 ^ bits else used
/-- What table came to. -/
def TabR (g m cap : Nat) (A : Option Addr) (d : Nat → Nat) (off S : Nat) (W H : Int) (down : Bool) (bits kind U : Nat) (r0 r1 r2 : Value) (e1 : Nat) (w : World) (e : Ending) (w' : World) : Prop :=
  Chg [g] w w' ∧ (tabE bits U e1 m ≠ 0 ∧ PanB (tabE bits U e1 m) e ∨ tabE bits U e1 m = 0 ∧ e = .returned (.tuple #[]) ∧ U ≤ 256 ∧ ∃ AC cc, HdS g m A d (rdC A m cap off S W H down bits kind U noB (.slice AC U cc) r0 r1 r2 0 0 0 (e1 + 4 * U)) w' ∧ w'.ownsRow w.heap.size 45 4 (.slice AC U cc) U (cellsP (tabB d e1 U)))
set_option maxRecDepth 100000 in
set_option maxHeartbeats 4000000 in
theorem table_b (g m cap : Nat) (A : Option Addr) (d : Nat → Nat) (off S : Nat) (W H : Int) (down : Bool) (bits kind used : Nat) (r0 r1 r2 : Value) (e1 : Nat) (he1 : 54 ≤ e1 ∧ e1 ≤ m) (hmc : m ≤ cap) (hcap : cap ≤ maxLen) (hbits : bits = 1 ∨ bits = 4 ∨ bits = 8) (hu : used < 4294967296) (w : World) (K : HdC g m cap A d) (h : HdS g m A d (rdC A m cap off S W H down bits kind used noB (.slice none 0 0) r0 r1 r2 0 0 0 e1) w) :
    Calls Tryd.prog 44 #[.pointer (some ⟨g, 0, none⟩)] w (TabR g m cap A d off S W H down bits kind (usedU bits used) r0 r1 r2 e1 w) := by
  obtain ⟨U, hU⟩ : ∃ U, U = usedU bits used := ⟨_, rfl⟩
  obtain ⟨B, hB⟩ : ∃ B, B = 2 ^ bits := ⟨_, rfl⟩
  have hB256 : 2 ≤ B ∧ B ≤ 256 := by rcases hbits with rfl | rfl | rfl <;> rw [hB] <;> decide
  have hUl : U < 4294967296 := by rw [hU]; unfold usedU; split <;> omega
  unfold TabR
  rw [← hU]
  obtain ⟨E, hE⟩ : ∃ E, E = tabE bits U e1 m := ⟨_, rfl⟩
  rw [← hE]
  unfold tabE at hE
  rw [← hB] at hE
  have HE := Lib.hid hE
  clear hE
  unfold usedU at hU
  rw [← hB] at hU
  have HBE := Lib.hid hB
  have HK := Lib.hid K
  have HS := Lib.hid h
  have hmm := K.hm
  have hgl : g < w.heap.size := lt_heap h.hR
  have h0l : 0 < w.heap.size := h.hT.1
  obtain ⟨bk, of, hAe, hbl, _⟩ := h.hB (by omega)
  have HAB : Hid (∀ a, A = some a → a.block < w.heap.size) := Lib.hid (fun a ha => by rw [hAe] at ha; cases ha; exact hbl)
  have c8 : w.cell? ⟨g, 8, none⟩ = some (.int .i64 (used : Nat)) := h.cell rfl
  have c6 : w.cell? ⟨g, 6, none⟩ = some (.int .i64 (bits : Nat)) := h.cell rfl
  have fz := hp_froz h.hR
  have hS8 := h.set K 8 (.int .i64 (B : Nat))
  have HS8 : Hid (HdS g m A d (rdC A m cap off S W H down bits kind B noB (.slice none 0 0) r0 r1 r2 0 0 0 e1) _) := Lib.hid hS8
  have HC8 := Lib.hid ((Chg.refl [g] w).set (g := g) (.inl (by simp)) 8 (.int .i64 (B : Nat)))
  have HU := Lib.hid hU
  have hb8 : bits ≤ 8 := by omega
  clear K h hB hAe hbl hS8
  go_enter Tryd.func44, Tryd.ntmps44
  go_upto_if 6 with fail
  go_cut [] (fun wx => Hid (HdS g m A d (rdC A m cap off S W H down bits kind U noB (.slice none 0 0) r0 r1 r2 0 0 0 e1) wx ∧ Chg [g] w wx))
  case first =>
    by_cases hu0 : used = 0
    · have z1 : ((used : Int) == 0) = true := eqn_t (b := 0) hu0
      have HUB : Hid (U = B) := Lib.hid (by rw [hU, if_pos hu0])
      clear hu0 hU
      rcases hbits with rfl | rfl | rfl
      · obtain rfl : B = 2 := HBE.out
        go_wp2_with fail
        go_meet
        exact Lib.hid ⟨by rw [HUB.out]; exact HS8.out, HC8.out⟩
      · obtain rfl : B = 16 := HBE.out
        go_wp2_with fail
        go_meet
        exact Lib.hid ⟨by rw [HUB.out]; exact HS8.out, HC8.out⟩
      · obtain rfl : B = 256 := HBE.out
        go_wp2_with fail
        go_meet
        exact Lib.hid ⟨by rw [HUB.out]; exact HS8.out, HC8.out⟩
    · have z1 : ((used : Int) == 0) = false := eqn_f (b := 0) hu0
      have hUB : U = used := by rw [hU, if_neg hu0]
      subst hUB
      clear hu0
      go_wp2_with fail
      go_meet
      exact Lib.hid ⟨HS.out, Chg.refl _ _⟩
  case rest =>
  obtain ⟨hS1, hC1⟩ := hcut.out
  obtain ⟨w1, hw1⟩ : ∃ w1, w1 = wc := ⟨_, rfl⟩
  rw [← hw1] at hS1 hC1 ⊢
  have HS1 := Lib.hid hS1
  have HC1 := Lib.hid hC1
  clear hcut hS1 hC1 hw1 c8 c6 fz HS8 HC8 HS hU
  go_upto_region 2 with fail
  go_cut [] (fun wx => Hid (U ≤ B ∧ HdS g m A d (rdC A m cap off S W H down bits kind U noB (.slice none 0 0) r0 r1 r2 0 0 0 e1) wx ∧ Chg [g] w wx))
  case first =>
    have c8 : w1.cell? ⟨g, 8, none⟩ = some (.int .i64 (U : Nat)) := HS1.out.cell rfl
    have c6 : w1.cell? ⟨g, 6, none⟩ = some (.int .i64 (bits : Nat)) := HS1.out.cell rfl
    by_cases h2 : B < U
    · have HT2 : Hid (∀ X : Nat, (if B < U then 4 else X) = 4) := Lib.hid (fun X => if_pos h2)
      have ht2 : ¬U ≤ B := by omega
      clear h2
      rcases hbits with rfl | rfl | rfl
      · obtain rfl : B = 2 := HBE.out
        have t1 : decide ((U : Int) ≤ (2 : Int)) = false := by simp; omega
        have t2 : decide (U ≤ 2) = false := by simp; omega
        go_still_tail 10, (by kernel_rfl)
        repeat still_step
        try refine wpStill_nil ?_
        change wpList _ _ _ _ _ w1.drew
        go_wp2_with fail
        refine (bmust_no 4 _).mono ?_
        rintro e w2 ⟨hp, rfl⟩
        obtain rfl := hp
        go_wp2_with fail
        exact ⟨rfl, HC1.out.drew, .inl (by rw [HE.out, HT2.out]; exact ⟨by decide, rfl⟩)⟩
      · obtain rfl : B = 16 := HBE.out
        have t1 : decide ((U : Int) ≤ (16 : Int)) = false := by simp; omega
        have t2 : decide (U ≤ 16) = false := by simp; omega
        go_still_tail 10, (by kernel_rfl)
        repeat still_step
        try refine wpStill_nil ?_
        change wpList _ _ _ _ _ w1.drew
        go_wp2_with fail
        refine (bmust_no 4 _).mono ?_
        rintro e w2 ⟨hp, rfl⟩
        obtain rfl := hp
        go_wp2_with fail
        exact ⟨rfl, HC1.out.drew, .inl (by rw [HE.out, HT2.out]; exact ⟨by decide, rfl⟩)⟩
      · obtain rfl : B = 256 := HBE.out
        have t1 : decide ((U : Int) ≤ (256 : Int)) = false := by simp; omega
        have t2 : decide (U ≤ 256) = false := by simp; omega
        go_still_tail 10, (by kernel_rfl)
        repeat still_step
        try refine wpStill_nil ?_
        change wpList _ _ _ _ _ w1.drew
        go_wp2_with fail
        refine (bmust_no 4 _).mono ?_
        rintro e w2 ⟨hp, rfl⟩
        obtain rfl := hp
        go_wp2_with fail
        exact ⟨rfl, HC1.out.drew, .inl (by rw [HE.out, HT2.out]; exact ⟨by decide, rfl⟩)⟩
    · have ht2 : U ≤ B := by omega
      have HG := Lib.hid ht2
      clear h2
      rcases hbits with rfl | rfl | rfl
      · obtain rfl : B = 2 := HBE.out
        have t1 : decide ((U : Int) ≤ (2 : Int)) = true := by simp; omega
        have t2 : decide (U ≤ 2) = true := by simp; omega
        go_still_tail 10, (by kernel_rfl)
        repeat still_step
        try refine wpStill_nil ?_
        change wpList _ _ _ _ _ w1.drew
        go_wp2_with fail
        refine (bmust_yes 4 _).mono ?_
        rintro e w2 ⟨rfl, rfl⟩
        go_wp2_with fail
        go_meet
        exact Lib.hid ⟨HG.out, HS1.out.drew, HC1.out.drew⟩
      · obtain rfl : B = 16 := HBE.out
        have t1 : decide ((U : Int) ≤ (16 : Int)) = true := by simp; omega
        have t2 : decide (U ≤ 16) = true := by simp; omega
        go_still_tail 10, (by kernel_rfl)
        repeat still_step
        try refine wpStill_nil ?_
        change wpList _ _ _ _ _ w1.drew
        go_wp2_with fail
        refine (bmust_yes 4 _).mono ?_
        rintro e w2 ⟨rfl, rfl⟩
        go_wp2_with fail
        go_meet
        exact Lib.hid ⟨HG.out, HS1.out.drew, HC1.out.drew⟩
      · obtain rfl : B = 256 := HBE.out
        have t1 : decide ((U : Int) ≤ (256 : Int)) = true := by simp; omega
        have t2 : decide (U ≤ 256) = true := by simp; omega
        go_still_tail 10, (by kernel_rfl)
        repeat still_step
        try refine wpStill_nil ?_
        change wpList _ _ _ _ _ w1.drew
        go_wp2_with fail
        refine (bmust_yes 4 _).mono ?_
        rintro e w2 ⟨rfl, rfl⟩
        go_wp2_with fail
        go_meet
        exact Lib.hid ⟨HG.out, HS1.out.drew, HC1.out.drew⟩
  case rest =>
  obtain ⟨hUB, hS2, hC2⟩ := hcut.out
  obtain ⟨w2, hw2⟩ : ∃ w2, w2 = wc := ⟨_, rfl⟩
  rw [← hw2] at hS2 hC2 ⊢
  have HS2 := Lib.hid hS2
  have HC2 := Lib.hid hC2
  have hU256 : U ≤ 256 := by omega
  have hnB : ¬B < U := by omega
  have HNB := Lib.hid hnB
  have c8 : w2.cell? ⟨g, 8, none⟩ = some (.int .i64 (U : Nat)) := hS2.cell rfl
  have c0 : w2.cell? ⟨g, 0, none⟩ = some (.slice A m cap) := hS2.cell rfl
  have c20 : w2.cell? ⟨g, 20, none⟩ = some (.int .i64 (e1 : Nat)) := hS2.cell rfl
  clear hcut hS2 hC2 hw2 HS1 HC1 hUB hnB
  go_upto_region 3 with fail
  by_cases h3 : m < e1 + 4 * U
  · have t1 : decide ((4 : Int) * (U : Int) ≤ (m : Int) - (e1 : Int)) = false := by simp; omega
    have HH3 := Lib.hid h3
    clear h3
    go_still_tail 16, (by kernel_rfl)
    repeat still_step
    try refine wpStill_nil ?_
    change wpList _ _ _ _ _ w2.drew
    go_wp2_with fail
    try rw [t1]
    refine (bmust_no 2 _).mono ?_
    rintro e w3 ⟨hp, rfl⟩
    obtain rfl := hp
    go_wp2_with fail
    exact ⟨rfl, HC2.out.drew, .inl (by rw [HE.out, if_neg HNB.out, if_pos HH3.out]; exact ⟨by decide, rfl⟩)⟩
  have t1 : decide ((4 : Int) * (U : Int) ≤ (m : Int) - (e1 : Int)) = true := by simp; omega
  have HH3 := Lib.hid h3
  clear h3
  go_still_tail 16, (by kernel_rfl)
  repeat still_step
  try refine wpStill_nil ?_
  change wpList _ _ _ _ _ w2.drew
  go_wp2_with fail
  try rw [t1]
  refine (bmust_yes 2 _).mono ?_
  rintro e w3 ⟨rfl, rfl⟩
  have HS3 := Lib.hid HS2.out.drew
  have HC3 := Lib.hid HC2.out.drew
  clear HS2 HC2 c8 c0 c20 t1
  generalize w2.drew = w3 at *
  have c8 : w3.cell? ⟨g, 8, none⟩ = some (.int .i64 (U : Nat)) := HS3.out.cell rfl
  go_wp2_with fail
  go_loopw [47] (fun q wr => ∃ (i : Nat) (Ac : Option Addr) (cc : Nat), i ≤ U ∧ q = .int .i64 (i : Nat) ∧ Chg [g] w wr ∧ HdS g m A d (rdC A m cap off S W H down bits kind U noB (.slice Ac i cc) r0 r1 r2 0 0 0 (e1 + 4 * i)) wr ∧ wr.ownsRow w.heap.size 45 4 (.slice Ac i cc) i (cellsP (tabB d e1 i))) (fun q _ => U - (intOf q).toNat)
  case atStart => exact ⟨0, none, 0, by omega, rfl, HC3.out, HS3.out, World.ownsRow_nil _ _ _ _⟩
  case round =>
    clear HC3 HS3 c8
    obtain ⟨i, Ac, cc, hiU, rfl, hC, hS, hO⟩ := hrel
    have HC_wr := Lib.hid hC
    have HS_wr := Lib.hid hS
    have HO_wr := Lib.hid hO
    clear hC hS hO
    by_cases hlt : i < U
    · have hle := HH3.out
      obtain ⟨q, hq⟩ : ∃ q, q = e1 + 4 * i := ⟨_, rfl⟩
      rw [← hq] at HS_wr
      have hqm4 : q + 4 ≤ m := by omega
      have HQ := Lib.hid hq
      have hqm : q + (m - q) ≤ m := by omega
      have hm3 : 3 ≤ m - q := by omega
      have hi256 : i < 256 := by omega
      have hRL := run_lo A m cap q (by omega)
      obtain ⟨Z, hZ⟩ : ∃ Z, Z = (if cap = q then A else A.map (·.add q)) := ⟨_, rfl⟩
      rw [← hZ] at hRL
      obtain ⟨x0, hx0⟩ : ∃ x, x = d q := ⟨_, rfl⟩
      obtain ⟨x1, hx1⟩ : ∃ x, x = d (q + 1) := ⟨_, rfl⟩
      obtain ⟨x2, hx2⟩ : ∃ x, x = d (q + 2) := ⟨_, rfl⟩
      have HX0 : Hid (d (q + 2) = x2 ∧ d (q + 1) = x1 ∧ d (q + 0) = x0) := Lib.hid ⟨hx2.symm, hx1.symm, hx0.symm⟩
      have HZE := Lib.hid hZ
      clear hq hZ hx0 hx1 hx2 hle
      go_wp2_with fail
      go_upto_region 6 with fail
      refine wp_region_held_drew (S := fun w' => w'.cell? ⟨g, 0, none⟩ = some (.slice A m cap) ∧ w'.cell? ⟨g, 20, none⟩ = some (.int .i64 (q : Nat))) (by kernel_rfl) ⟨HS_wr.out.drew.cell rfl, HS_wr.out.drew.cell rfl⟩ (fun hHeld => ?_)
      have HS_wd := Lib.hid HS_wr.out.drew
      have HO_wd : Hid (wr.drew.ownsRow w.heap.size 45 4 (.slice Ac i cc) i (cellsP (tabB d e1 i))) := Lib.hid HO_wr.out.drew
      have HC_wd := Lib.hid HC_wr.out.drew
      clear HS_wr HO_wr HC_wr
      generalize wr.drew = wd at *
      refine wpAnyH_take (i := 0) (oi := ⟨some 49, _, _, _, _, _⟩) (v := ?v0n0) rfl (by kernel_rfl) (by kernel_rfl) (by kernel_rfl) (fun _ _ _ h => h) (Or.inl ⟨by rfl, ?y0n0⟩) hHeld ?r0n0
      case y0n0 => ((intro w hSw); go_split_ands; go_simp; try with_reducible rfl)
      try simp only [Act.put, List.setIfInBounds_toArray, List.set_cons_zero, List.set_cons_succ]
      refine wpAnyH_take (i := 1) (oi := ⟨some 50, _, _, _, _, _⟩) (v := ?v1n1) rfl (by kernel_rfl) (by kernel_rfl) (by kernel_rfl) (fun _ _ _ h => h) (Or.inl ⟨by rfl, ?y1n1⟩) hHeld ?r1n1
      case y1n1 => ((intro w hSw); go_split_ands; go_simp; try with_reducible rfl)
      try simp only [Act.put, List.setIfInBounds_toArray, List.set_cons_zero, List.set_cons_succ]
      refine wpAnyH_take (i := 2) (oi := ⟨some 51, _, _, _, _, _⟩) (v := ?v2n2) rfl (by kernel_rfl) (by kernel_rfl) (by kernel_rfl) (fun _ _ _ h => h) (Or.inl ⟨by rfl, ?y2n2⟩) hHeld ?r2n2
      case y2n2 => ((intro w hSw); go_split_ands; go_simp; try with_reducible rfl)
      try simp only [Act.put, List.setIfInBounds_toArray, List.set_cons_zero, List.set_cons_succ]
      refine wpAnyH_take (i := 3) (oi := ⟨some 52, _, _, _, _, _⟩) (v := ?v3n3) rfl (by kernel_rfl) (by kernel_rfl) (by kernel_rfl) (fun _ _ _ h => h) (Or.inl ⟨by rfl, ?y3n3⟩) hHeld ?r3n3
      case y3n3 => ((intro w hSw); go_split_ands; go_simp; try with_reducible rfl)
      try simp only [Act.put, List.setIfInBounds_toArray, List.set_cons_zero, List.set_cons_succ]
      refine wpAnyH_take (i := 5) (oi := ⟨some 54, _, _, _, _, _⟩) (v := ?v5n4) rfl (by kernel_rfl) (by kernel_rfl) (by kernel_rfl) (fun _ _ _ h => h) (Or.inl ⟨by rfl, ?y5n4⟩) hHeld ?r5n4
      case y5n4 => ((intro w hSw); go_split_ands; go_simp; try with_reducible rfl)
      try simp only [Act.put, List.setIfInBounds_toArray, List.set_cons_zero, List.set_cons_succ]
      refine wpAnyH_take (i := 6) (oi := ⟨some 55, _, _, _, _, _⟩) (v := ?v6n5) rfl (by kernel_rfl) (by kernel_rfl) (by kernel_rfl) (fun _ _ _ h => h) (Or.inl ⟨by rfl, ?y6n5⟩) hHeld ?r6n5
      case y6n5 => ((intro w hSw); go_split_ands; go_simp; try with_reducible rfl)
      try simp only [Act.put, List.setIfInBounds_toArray, List.set_cons_zero, List.set_cons_succ]
      refine wpAnyH_take (i := 7) (oi := ⟨some 56, _, _, _, _, _⟩) (v := ?v7n6) rfl (by kernel_rfl) (by kernel_rfl) (by kernel_rfl) (fun _ _ _ h => h) (Or.inl ⟨by rfl, ?y7n6⟩) hHeld ?r7n6
      case y7n6 => ((intro w hSw); go_split_ands; go_simp; try with_reducible rfl)
      try simp only [Act.put, List.setIfInBounds_toArray, List.set_cons_zero, List.set_cons_succ]
      refine wpAnyH_take (i := 8) (oi := ⟨some 57, _, _, _, _, _⟩) (v := ?v8n7) rfl (by kernel_rfl) (by kernel_rfl) (by kernel_rfl) (fun _ _ _ h => h) (Or.inl ⟨by rfl, ?y8n7⟩) hHeld ?r8n7
      case y8n7 => ((intro w hSw); go_split_ands; go_simp; try with_reducible rfl)
      try simp only [Act.put, List.setIfInBounds_toArray, List.set_cons_zero, List.set_cons_succ]
      refine wpAnyH_take (i := 9) (oi := ⟨some 58, _, _, _, _, _⟩) (v := ?v9n8) rfl (by kernel_rfl) (by kernel_rfl) (by kernel_rfl) (fun _ _ _ h => h) (Or.inl ⟨by rfl, ?y9n8⟩) hHeld ?r9n8
      case y9n8 => ((intro w hSw); go_split_ands; go_simp; try with_reducible rfl)
      try simp only [Act.put, List.setIfInBounds_toArray, List.set_cons_zero, List.set_cons_succ]
      refine wpAnyH_take (i := 10) (oi := ⟨some 59, _, _, _, _, _⟩) (v := ?v10n9) rfl (by kernel_rfl) (by kernel_rfl) (by kernel_rfl) (fun _ _ _ h => h) (Or.inl ⟨by rfl, ?y10n9⟩) hHeld ?r10n9
      case y10n9 => ((intro w hSw); go_split_ands; go_simp; try with_reducible rfl)
      try simp only [Act.put, List.setIfInBounds_toArray, List.set_cons_zero, List.set_cons_succ]
      refine wpAnyH_take (i := 11) (oi := ⟨some 60, _, _, _, _, _⟩) (v := ?v11n10) rfl (by kernel_rfl) (by kernel_rfl) (by kernel_rfl) (fun _ _ _ h => h) (Or.inl ⟨by rfl, ?y11n10⟩) hHeld ?r11n10
      case y11n10 => ((intro w hSw); go_split_ands; go_simp; try with_reducible rfl)
      try simp only [Act.put, List.setIfInBounds_toArray, List.set_cons_zero, List.set_cons_succ]
      refine wpAnyH_take (i := 12) (oi := ⟨some 61, _, _, _, _, _⟩) (v := ?v12n11) rfl (by kernel_rfl) (by kernel_rfl) (by kernel_rfl) (fun _ _ _ h => h) (Or.inl ⟨by rfl, ?y12n11⟩) hHeld ?r12n11
      case y12n11 => ((intro w hSw); go_split_ands; go_simp; try with_reducible rfl)
      try simp only [Act.put, List.setIfInBounds_toArray, List.set_cons_zero, List.set_cons_succ]
      refine wpAnyH_take (i := 13) (oi := ⟨some 62, _, _, _, _, _⟩) (v := ?v13n12) rfl (by kernel_rfl) (by kernel_rfl) (by kernel_rfl) (fun _ _ _ h => h) (Or.inl ⟨by rfl, ?y13n12⟩) hHeld ?r13n12
      case y13n12 => ((intro w hSw); go_split_ands; go_simp; try with_reducible rfl)
      try simp only [Act.put, List.setIfInBounds_toArray, List.set_cons_zero, List.set_cons_succ]
      refine wpAnyH_ready (rs := [4, 14]) (by kernel_rfl) (by simp) (AllReadyH.cons (o := ⟨some 53, _, _, _, _, _⟩) rfl (fun K hK => ?_) (AllReadyH.cons (o := ⟨some 63, _, _, _, _, _⟩) rfl (fun K hK => ?_) AllReadyH.nil))
      · have k13 : wd.cell? ⟨g, 13, none⟩ = some (.slice Ac i cc) := HS_wd.out.cell rfl
        go_simp
        clear k13
        refine hK.out _ _ ⟨HS_wd.out.cell rfl, HS_wd.out.cell rfl⟩ (fun hHeld => ?_)
        clear hK K
        try simp only [Act.put, List.setIfInBounds_toArray, List.set_cons_zero, List.set_cons_succ]
        refine wpAnyH_ready (rs := [14]) (by kernel_rfl) (by simp) (AllReadyH.cons (o := ⟨some 63, _, _, _, _, _⟩) rfl (fun K hK => ?_) AllReadyH.nil)
        go_simp
        refine (back_b (m - q) (cap - q) (fun j => d (q + j)) (fun _ => HK.out.hd _) Z wd hm3 (by rw [HZE.out]; exact HS_wd.out.hB.from hmc hqm)).mono ?_
        rintro e v1 ⟨rfl, hB9⟩
        rw [HX0.out.1, HX0.out.2.1, HX0.out.2.2]
        have HS_v1 := Lib.hid (HS_wd.out.below hB9)
        have HO_v1 := Lib.hid (own_none HO_wd.out hB9)
        have HC_v1 := Lib.hid (HC_wd.out.trans (Chg.of_below hB9))
        clear hB9
        go_wp2_with fail
        refine hK.out _ _ ⟨HS_v1.out.cell rfl, HS_v1.out.cell rfl⟩ (fun hHeld => ?_)
        clear hK K
        try simp only [Act.put, List.setIfInBounds_toArray, List.set_cons_zero, List.set_cons_succ]
        refine wpAnyH_ready (rs := [15]) (by kernel_rfl) (by simp) (AllReadyH.cons (o := ⟨some 64, _, _, _, _, _⟩) rfl (fun K hK => ?_) AllReadyH.nil)
        have HS_v2w := Lib.hid (HS_v1.out.below ((Below.refl _ v1).alloc (Nat.le_refl _) (.cells #[.int .u16 ((x2 : Int) * 257), .int .u16 ((x1 : Int) * 257), .int .u16 ((x0 : Int) * 257), .int .u16 65535] 45)))
        have HO_v2w := Lib.hid (HO_v1.out.alloc (.cells #[.int .u16 ((x2 : Int) * 257), .int .u16 ((x1 : Int) * 257), .int .u16 ((x0 : Int) * 257), .int .u16 65535] 45))
        have HC_v2w := Lib.hid (HC_v1.out.trans (Chg.of_below ((Below.refl _ v1).alloc (Nat.le_refl _) (.cells #[.int .u16 ((x2 : Int) * 257), .int .u16 ((x1 : Int) * 257), .int .u16 ((x0 : Int) * 257), .int .u16 65535] 45))))
        have HN_v2w := Lib.hid (hp_new0 v1 (.cells #[.int .u16 ((x2 : Int) * 257), .int .u16 ((x1 : Int) * 257), .int .u16 ((x0 : Int) * 257), .int .u16 65535] 45))
        go_simp
        refine hK.out _ _ ⟨HS_v2w.out.cell rfl, HS_v2w.out.cell rfl⟩ (fun hHeld => ?_)
        clear hK K
        try simp only [Act.put, List.setIfInBounds_toArray, List.set_cons_zero, List.set_cons_succ]
        generalize v1.alloc (.cells #[.int .u16 ((x2 : Int) * 257), .int .u16 ((x1 : Int) * 257), .int .u16 ((x0 : Int) * 257), .int .u16 65535] 45) = v2w at *
        obtain ⟨nb, hnb⟩ : ∃ nb, nb = v1.heap.size := ⟨_, rfl⟩
        rw [← hnb] at HN_v2w ⊢
        clear hnb HS_v1 HO_v1 HC_v1
        obtain ⟨v2, W2, r2, o2, g2, hv2⟩ := tab_app v2w w.heap.size Ac i cc (tabB d e1 i) nb x2 x1 x0 HO_v2w.out HN_v2w.out hi256 (Nat.le_trans HC_v2w.out.size (Nat.le_refl _))
        obtain ⟨-, A2, c2, rfl, p1, p2, -⟩ := Sl.of_own o2
        have hgr := HS_v2w.out.grown g2 (fun r hr => (HO_v2w.out.lt r hr).1) hgl HAB.out h0l
        have HS2 := Lib.hid hgr.1
        have HC2 := Lib.hid (chg_row HC_v2w.out hgr.2 (fun r hr => (HO_v2w.out.lt r hr).1))
        have HR2 := Lib.hid r2
        have HO2 := Lib.hid o2
        clear r2 o2 g2 hgr hv2 HS_v2w HO_v2w HC_v2w HN_v2w
        refine wpAnyH_ready (rs := [16]) (by kernel_rfl) (by simp) (AllReadyH.cons (o := ⟨some 65, _, _, _, _, _⟩) rfl (fun K hK => ?_) AllReadyH.nil)
        ((with_reducible refine step_app (o := ⟨some 65, _, _, _, _, _⟩) ?_ (.tmp 53) (.tmp 64) 51 ?_ _ _ _ _ ?_ ?_ HR2.out ?_)); rfl; rfl; rfl; rfl
        refine hK.out _ _ ⟨HS2.out.cell rfl, HS2.out.cell rfl⟩ (fun hHeld => ?_)
        clear hK K
        try simp only [Act.put, List.setIfInBounds_toArray, List.set_cons_zero, List.set_cons_succ]
        refine wpAnyH_take (i := 17) (oi := ⟨some 66, _, _, _, _, _⟩) (v := ?v17n13) rfl (by kernel_rfl) (by kernel_rfl) (by kernel_rfl) (fun _ _ _ h => h) (Or.inl ⟨by rfl, ?y17n13⟩) hHeld ?r17n13
        case y17n13 => ((intro w hSw); go_split_ands; go_simp; try with_reducible rfl)
        try simp only [Act.put, List.setIfInBounds_toArray, List.set_cons_zero, List.set_cons_succ]
        refine wpAnyH_take (i := 18) (oi := ⟨some 67, _, _, _, _, _⟩) (v := ?v18n14) rfl (by kernel_rfl) (by kernel_rfl) (by kernel_rfl) (fun _ _ _ h => h) (Or.inl ⟨by rfl, ?y18n14⟩) hHeld ?r18n14
        case y18n14 => ((intro w hSw); go_split_ands; go_simp; try with_reducible rfl)
        try simp only [Act.put, List.setIfInBounds_toArray, List.set_cons_zero, List.set_cons_succ]
        have k13 : W2.cell? ⟨g, 13, none⟩ = some (.slice Ac i cc) := HS2.out.cell rfl
        have kf := hp_froz HS2.out.hR
        have HS3 : Hid (HdS g m A d (rdC A m cap off S W H down bits kind U noB (.slice A2 (i + 1) c2) r0 r1 r2 0 0 0 q) _) := Lib.hid (HS2.out.set HK.out 13 (.slice A2 (i + 1) c2))
        have HC3 := Lib.hid (HC2.out.set (g := g) (.inl (by simp)) 13 (.slice A2 (i + 1) c2))
        have HO3 := Lib.hid (ownsRow_setCell_below HO2.out (a := ⟨g, 13, none⟩) hgl (.slice A2 (i + 1) c2))
        refine wpAnyH_ready (rs := [19]) (by kernel_rfl) (by simp) (AllReadyH.cons (o := ⟨none, _, _, _, _, _⟩) rfl (fun K hK => ?_) AllReadyH.nil)
        go_simp
        refine hK.out _ _ ⟨HS3.out.cell rfl, HS3.out.cell rfl⟩ (fun hHeld => ?_)
        clear hK K
        try simp only [Act.put, List.setIfInBounds_toArray, List.set_cons_zero, List.set_cons_succ]
        refine wpAnyH_done (by kernel_rfl) ?_ _
        clear k13 kf HS2 HC2 HO2 HR2 hHeld
        generalize W2.setCell ⟨g, 13, none⟩ (.slice A2 (i + 1) c2) = W3 at *
        have k20 : W3.cell? ⟨g, 20, none⟩ = some (.int .i64 (q : Nat)) := HS3.out.cell rfl
        have kf := hp_froz HS3.out.hR
        have HS4 : Hid (HdS g m A d (rdC A m cap off S W H down bits kind U noB (.slice A2 (i + 1) c2) r0 r1 r2 0 0 0 (e1 + 4 * (i + 1))) (W3.setCell ⟨g, 20, none⟩ (.int .i64 ((q : Int) + 4)))) := Lib.hid (by rw [show ((q : Int) + 4) = ((e1 + 4 * (i + 1) : Nat) : Int) by have := HQ.out; omega]; exact HS3.out.set HK.out 20 (.int .i64 ((e1 + 4 * (i + 1) : Nat) : Int)))
        have HC4 := Lib.hid (HC3.out.set (g := g) (.inl (by simp)) 20 (.int .i64 ((q : Int) + 4)))
        have HO4 := Lib.hid (ownsRow_setCell_below HO3.out (a := ⟨g, 20, none⟩) hgl (.int .i64 ((q : Int) + 4)))
        clear HS3 HC3 HO3
        go_wp2_with fail
        go_roundw
        case rel => exact ⟨i + 1, A2, c2, hlt, by go_num, HC4.out, HS4.out, by have h := HO4.out; rw [back_q HQ.out HX0.out] at h; rw [tabB_succ]; exact h⟩
        case measure => simp [intOf]; omega
      · go_simp
        refine (back_b (m - q) (cap - q) (fun j => d (q + j)) (fun _ => HK.out.hd _) Z wd hm3 (by rw [HZE.out]; exact HS_wd.out.hB.from hmc hqm)).mono ?_
        rintro e v1 ⟨rfl, hB9⟩
        rw [HX0.out.1, HX0.out.2.1, HX0.out.2.2]
        have HS_v1 := Lib.hid (HS_wd.out.below hB9)
        have HO_v1 := Lib.hid (own_none HO_wd.out hB9)
        have HC_v1 := Lib.hid (HC_wd.out.trans (Chg.of_below hB9))
        clear hB9
        go_wp2_with fail
        refine hK.out _ _ ⟨HS_v1.out.cell rfl, HS_v1.out.cell rfl⟩ (fun hHeld => ?_)
        clear hK K
        try simp only [Act.put, List.setIfInBounds_toArray, List.set_cons_zero, List.set_cons_succ]
        refine wpAnyH_ready (rs := [4, 15]) (by kernel_rfl) (by simp) (AllReadyH.cons (o := ⟨some 53, _, _, _, _, _⟩) rfl (fun K hK => ?_) (AllReadyH.cons (o := ⟨some 64, _, _, _, _, _⟩) rfl (fun K hK => ?_) AllReadyH.nil))
        · have k13 : v1.cell? ⟨g, 13, none⟩ = some (.slice Ac i cc) := HS_v1.out.cell rfl
          go_simp
          clear k13
          refine hK.out _ _ ⟨HS_v1.out.cell rfl, HS_v1.out.cell rfl⟩ (fun hHeld => ?_)
          clear hK K
          try simp only [Act.put, List.setIfInBounds_toArray, List.set_cons_zero, List.set_cons_succ]
          refine wpAnyH_ready (rs := [15]) (by kernel_rfl) (by simp) (AllReadyH.cons (o := ⟨some 64, _, _, _, _, _⟩) rfl (fun K hK => ?_) AllReadyH.nil)
          have HS_v2w := Lib.hid (HS_v1.out.below ((Below.refl _ v1).alloc (Nat.le_refl _) (.cells #[.int .u16 ((x2 : Int) * 257), .int .u16 ((x1 : Int) * 257), .int .u16 ((x0 : Int) * 257), .int .u16 65535] 45)))
          have HO_v2w := Lib.hid (HO_v1.out.alloc (.cells #[.int .u16 ((x2 : Int) * 257), .int .u16 ((x1 : Int) * 257), .int .u16 ((x0 : Int) * 257), .int .u16 65535] 45))
          have HC_v2w := Lib.hid (HC_v1.out.trans (Chg.of_below ((Below.refl _ v1).alloc (Nat.le_refl _) (.cells #[.int .u16 ((x2 : Int) * 257), .int .u16 ((x1 : Int) * 257), .int .u16 ((x0 : Int) * 257), .int .u16 65535] 45))))
          have HN_v2w := Lib.hid (hp_new0 v1 (.cells #[.int .u16 ((x2 : Int) * 257), .int .u16 ((x1 : Int) * 257), .int .u16 ((x0 : Int) * 257), .int .u16 65535] 45))
          go_simp
          refine hK.out _ _ ⟨HS_v2w.out.cell rfl, HS_v2w.out.cell rfl⟩ (fun hHeld => ?_)
          clear hK K
          try simp only [Act.put, List.setIfInBounds_toArray, List.set_cons_zero, List.set_cons_succ]
          generalize v1.alloc (.cells #[.int .u16 ((x2 : Int) * 257), .int .u16 ((x1 : Int) * 257), .int .u16 ((x0 : Int) * 257), .int .u16 65535] 45) = v2w at *
          obtain ⟨nb, hnb⟩ : ∃ nb, nb = v1.heap.size := ⟨_, rfl⟩
          rw [← hnb] at HN_v2w ⊢
          clear hnb HS_v1 HO_v1 HC_v1
          obtain ⟨v2, W2, r2, o2, g2, hv2⟩ := tab_app v2w w.heap.size Ac i cc (tabB d e1 i) nb x2 x1 x0 HO_v2w.out HN_v2w.out hi256 (Nat.le_trans HC_v2w.out.size (Nat.le_refl _))
          obtain ⟨-, A2, c2, rfl, p1, p2, -⟩ := Sl.of_own o2
          have hgr := HS_v2w.out.grown g2 (fun r hr => (HO_v2w.out.lt r hr).1) hgl HAB.out h0l
          have HS2 := Lib.hid hgr.1
          have HC2 := Lib.hid (chg_row HC_v2w.out hgr.2 (fun r hr => (HO_v2w.out.lt r hr).1))
          have HR2 := Lib.hid r2
          have HO2 := Lib.hid o2
          clear r2 o2 g2 hgr hv2 HS_v2w HO_v2w HC_v2w HN_v2w
          refine wpAnyH_ready (rs := [16]) (by kernel_rfl) (by simp) (AllReadyH.cons (o := ⟨some 65, _, _, _, _, _⟩) rfl (fun K hK => ?_) AllReadyH.nil)
          ((with_reducible refine step_app (o := ⟨some 65, _, _, _, _, _⟩) ?_ (.tmp 53) (.tmp 64) 51 ?_ _ _ _ _ ?_ ?_ HR2.out ?_)); rfl; rfl; rfl; rfl
          refine hK.out _ _ ⟨HS2.out.cell rfl, HS2.out.cell rfl⟩ (fun hHeld => ?_)
          clear hK K
          try simp only [Act.put, List.setIfInBounds_toArray, List.set_cons_zero, List.set_cons_succ]
          refine wpAnyH_take (i := 17) (oi := ⟨some 66, _, _, _, _, _⟩) (v := ?v17n15) rfl (by kernel_rfl) (by kernel_rfl) (by kernel_rfl) (fun _ _ _ h => h) (Or.inl ⟨by rfl, ?y17n15⟩) hHeld ?r17n15
          case y17n15 => ((intro w hSw); go_split_ands; go_simp; try with_reducible rfl)
          try simp only [Act.put, List.setIfInBounds_toArray, List.set_cons_zero, List.set_cons_succ]
          refine wpAnyH_take (i := 18) (oi := ⟨some 67, _, _, _, _, _⟩) (v := ?v18n16) rfl (by kernel_rfl) (by kernel_rfl) (by kernel_rfl) (fun _ _ _ h => h) (Or.inl ⟨by rfl, ?y18n16⟩) hHeld ?r18n16
          case y18n16 => ((intro w hSw); go_split_ands; go_simp; try with_reducible rfl)
          try simp only [Act.put, List.setIfInBounds_toArray, List.set_cons_zero, List.set_cons_succ]
          have k13 : W2.cell? ⟨g, 13, none⟩ = some (.slice Ac i cc) := HS2.out.cell rfl
          have kf := hp_froz HS2.out.hR
          have HS3 : Hid (HdS g m A d (rdC A m cap off S W H down bits kind U noB (.slice A2 (i + 1) c2) r0 r1 r2 0 0 0 q) _) := Lib.hid (HS2.out.set HK.out 13 (.slice A2 (i + 1) c2))
          have HC3 := Lib.hid (HC2.out.set (g := g) (.inl (by simp)) 13 (.slice A2 (i + 1) c2))
          have HO3 := Lib.hid (ownsRow_setCell_below HO2.out (a := ⟨g, 13, none⟩) hgl (.slice A2 (i + 1) c2))
          refine wpAnyH_ready (rs := [19]) (by kernel_rfl) (by simp) (AllReadyH.cons (o := ⟨none, _, _, _, _, _⟩) rfl (fun K hK => ?_) AllReadyH.nil)
          go_simp
          refine hK.out _ _ ⟨HS3.out.cell rfl, HS3.out.cell rfl⟩ (fun hHeld => ?_)
          clear hK K
          try simp only [Act.put, List.setIfInBounds_toArray, List.set_cons_zero, List.set_cons_succ]
          refine wpAnyH_done (by kernel_rfl) ?_ _
          clear k13 kf HS2 HC2 HO2 HR2 hHeld
          generalize W2.setCell ⟨g, 13, none⟩ (.slice A2 (i + 1) c2) = W3 at *
          have k20 : W3.cell? ⟨g, 20, none⟩ = some (.int .i64 (q : Nat)) := HS3.out.cell rfl
          have kf := hp_froz HS3.out.hR
          have HS4 : Hid (HdS g m A d (rdC A m cap off S W H down bits kind U noB (.slice A2 (i + 1) c2) r0 r1 r2 0 0 0 (e1 + 4 * (i + 1))) (W3.setCell ⟨g, 20, none⟩ (.int .i64 ((q : Int) + 4)))) := Lib.hid (by rw [show ((q : Int) + 4) = ((e1 + 4 * (i + 1) : Nat) : Int) by have := HQ.out; omega]; exact HS3.out.set HK.out 20 (.int .i64 ((e1 + 4 * (i + 1) : Nat) : Int)))
          have HC4 := Lib.hid (HC3.out.set (g := g) (.inl (by simp)) 20 (.int .i64 ((q : Int) + 4)))
          have HO4 := Lib.hid (ownsRow_setCell_below HO3.out (a := ⟨g, 20, none⟩) hgl (.int .i64 ((q : Int) + 4)))
          clear HS3 HC3 HO3
          go_wp2_with fail
          go_roundw
          case rel => exact ⟨i + 1, A2, c2, hlt, by go_num, HC4.out, HS4.out, by have h := HO4.out; rw [back_q HQ.out HX0.out] at h; rw [tabB_succ]; exact h⟩
          case measure => simp [intOf]; omega
        · have HS_v2w := Lib.hid (HS_v1.out.below ((Below.refl _ v1).alloc (Nat.le_refl _) (.cells #[.int .u16 ((x2 : Int) * 257), .int .u16 ((x1 : Int) * 257), .int .u16 ((x0 : Int) * 257), .int .u16 65535] 45)))
          have HO_v2w := Lib.hid (HO_v1.out.alloc (.cells #[.int .u16 ((x2 : Int) * 257), .int .u16 ((x1 : Int) * 257), .int .u16 ((x0 : Int) * 257), .int .u16 65535] 45))
          have HC_v2w := Lib.hid (HC_v1.out.trans (Chg.of_below ((Below.refl _ v1).alloc (Nat.le_refl _) (.cells #[.int .u16 ((x2 : Int) * 257), .int .u16 ((x1 : Int) * 257), .int .u16 ((x0 : Int) * 257), .int .u16 65535] 45))))
          have HN_v2w := Lib.hid (hp_new0 v1 (.cells #[.int .u16 ((x2 : Int) * 257), .int .u16 ((x1 : Int) * 257), .int .u16 ((x0 : Int) * 257), .int .u16 65535] 45))
          go_simp
          refine hK.out _ _ ⟨HS_v2w.out.cell rfl, HS_v2w.out.cell rfl⟩ (fun hHeld => ?_)
          clear hK K
          try simp only [Act.put, List.setIfInBounds_toArray, List.set_cons_zero, List.set_cons_succ]
          generalize v1.alloc (.cells #[.int .u16 ((x2 : Int) * 257), .int .u16 ((x1 : Int) * 257), .int .u16 ((x0 : Int) * 257), .int .u16 65535] 45) = v2w at *
          obtain ⟨nb, hnb⟩ : ∃ nb, nb = v1.heap.size := ⟨_, rfl⟩
          rw [← hnb] at HN_v2w ⊢
          clear hnb HS_v1 HO_v1 HC_v1
          refine wpAnyH_ready (rs := [4]) (by kernel_rfl) (by simp) (AllReadyH.cons (o := ⟨some 53, _, _, _, _, _⟩) rfl (fun K hK => ?_) AllReadyH.nil)
          have k13 : v2w.cell? ⟨g, 13, none⟩ = some (.slice Ac i cc) := HS_v2w.out.cell rfl
          go_simp
          clear k13
          refine hK.out _ _ ⟨HS_v2w.out.cell rfl, HS_v2w.out.cell rfl⟩ (fun hHeld => ?_)
          clear hK K
          try simp only [Act.put, List.setIfInBounds_toArray, List.set_cons_zero, List.set_cons_succ]
          obtain ⟨v2, W2, r2, o2, g2, hv2⟩ := tab_app v2w w.heap.size Ac i cc (tabB d e1 i) nb x2 x1 x0 HO_v2w.out HN_v2w.out hi256 (Nat.le_trans HC_v2w.out.size (Nat.le_refl _))
          obtain ⟨-, A2, c2, rfl, p1, p2, -⟩ := Sl.of_own o2
          have hgr := HS_v2w.out.grown g2 (fun r hr => (HO_v2w.out.lt r hr).1) hgl HAB.out h0l
          have HS2 := Lib.hid hgr.1
          have HC2 := Lib.hid (chg_row HC_v2w.out hgr.2 (fun r hr => (HO_v2w.out.lt r hr).1))
          have HR2 := Lib.hid r2
          have HO2 := Lib.hid o2
          clear r2 o2 g2 hgr hv2 HS_v2w HO_v2w HC_v2w HN_v2w
          refine wpAnyH_ready (rs := [16]) (by kernel_rfl) (by simp) (AllReadyH.cons (o := ⟨some 65, _, _, _, _, _⟩) rfl (fun K hK => ?_) AllReadyH.nil)
          ((with_reducible refine step_app (o := ⟨some 65, _, _, _, _, _⟩) ?_ (.tmp 53) (.tmp 64) 51 ?_ _ _ _ _ ?_ ?_ HR2.out ?_)); rfl; rfl; rfl; rfl
          refine hK.out _ _ ⟨HS2.out.cell rfl, HS2.out.cell rfl⟩ (fun hHeld => ?_)
          clear hK K
          try simp only [Act.put, List.setIfInBounds_toArray, List.set_cons_zero, List.set_cons_succ]
          refine wpAnyH_take (i := 17) (oi := ⟨some 66, _, _, _, _, _⟩) (v := ?v17n17) rfl (by kernel_rfl) (by kernel_rfl) (by kernel_rfl) (fun _ _ _ h => h) (Or.inl ⟨by rfl, ?y17n17⟩) hHeld ?r17n17
          case y17n17 => ((intro w hSw); go_split_ands; go_simp; try with_reducible rfl)
          try simp only [Act.put, List.setIfInBounds_toArray, List.set_cons_zero, List.set_cons_succ]
          refine wpAnyH_take (i := 18) (oi := ⟨some 67, _, _, _, _, _⟩) (v := ?v18n18) rfl (by kernel_rfl) (by kernel_rfl) (by kernel_rfl) (fun _ _ _ h => h) (Or.inl ⟨by rfl, ?y18n18⟩) hHeld ?r18n18
          case y18n18 => ((intro w hSw); go_split_ands; go_simp; try with_reducible rfl)
          try simp only [Act.put, List.setIfInBounds_toArray, List.set_cons_zero, List.set_cons_succ]
          have k13 : W2.cell? ⟨g, 13, none⟩ = some (.slice Ac i cc) := HS2.out.cell rfl
          have kf := hp_froz HS2.out.hR
          have HS3 : Hid (HdS g m A d (rdC A m cap off S W H down bits kind U noB (.slice A2 (i + 1) c2) r0 r1 r2 0 0 0 q) _) := Lib.hid (HS2.out.set HK.out 13 (.slice A2 (i + 1) c2))
          have HC3 := Lib.hid (HC2.out.set (g := g) (.inl (by simp)) 13 (.slice A2 (i + 1) c2))
          have HO3 := Lib.hid (ownsRow_setCell_below HO2.out (a := ⟨g, 13, none⟩) hgl (.slice A2 (i + 1) c2))
          refine wpAnyH_ready (rs := [19]) (by kernel_rfl) (by simp) (AllReadyH.cons (o := ⟨none, _, _, _, _, _⟩) rfl (fun K hK => ?_) AllReadyH.nil)
          go_simp
          refine hK.out _ _ ⟨HS3.out.cell rfl, HS3.out.cell rfl⟩ (fun hHeld => ?_)
          clear hK K
          try simp only [Act.put, List.setIfInBounds_toArray, List.set_cons_zero, List.set_cons_succ]
          refine wpAnyH_done (by kernel_rfl) ?_ _
          clear k13 kf HS2 HC2 HO2 HR2 hHeld
          generalize W2.setCell ⟨g, 13, none⟩ (.slice A2 (i + 1) c2) = W3 at *
          have k20 : W3.cell? ⟨g, 20, none⟩ = some (.int .i64 (q : Nat)) := HS3.out.cell rfl
          have kf := hp_froz HS3.out.hR
          have HS4 : Hid (HdS g m A d (rdC A m cap off S W H down bits kind U noB (.slice A2 (i + 1) c2) r0 r1 r2 0 0 0 (e1 + 4 * (i + 1))) (W3.setCell ⟨g, 20, none⟩ (.int .i64 ((q : Int) + 4)))) := Lib.hid (by rw [show ((q : Int) + 4) = ((e1 + 4 * (i + 1) : Nat) : Int) by have := HQ.out; omega]; exact HS3.out.set HK.out 20 (.int .i64 ((e1 + 4 * (i + 1) : Nat) : Int)))
          have HC4 := Lib.hid (HC3.out.set (g := g) (.inl (by simp)) 20 (.int .i64 ((q : Int) + 4)))
          have HO4 := Lib.hid (ownsRow_setCell_below HO3.out (a := ⟨g, 20, none⟩) hgl (.int .i64 ((q : Int) + 4)))
          clear HS3 HC3 HO3
          go_wp2_with fail
          go_roundw
          case rel => exact ⟨i + 1, A2, c2, hlt, by go_num, HC4.out, HS4.out, by have h := HO4.out; rw [back_q HQ.out HX0.out] at h; rw [tabB_succ]; exact h⟩
          case measure => simp [intOf]; omega
    · obtain rfl : i = U := by omega
      go_wp2_with fail
      go_end0
      have hE : E = 0 := by rw [HE.out, if_neg HNB.out, if_neg HH3.out]
      rw [hE]
      exact ⟨HC_wr.out, .inr ⟨rfl, rfl, hU256, Ac, cc, HS_wr.out, HO_wr.out⟩⟩
end Go.Proofs.YthgafdbdmemkhaaDoor
