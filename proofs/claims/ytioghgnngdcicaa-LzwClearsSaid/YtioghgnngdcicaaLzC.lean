/- A reader of GIF's codes: what a code does. -/
import Derived.Test.YtioghgnngdcicaaLzM
import Derived.Deep.RegionLaw
import Derived.Deep.CutBlock
namespace Go.Proofs.Ytioghgnngdcicaa
set_option linter.unusedVariables false
open Go.ChangeShapes Go.WideShapes Go.ChangeAt Go.RowKit

/-- A reader's own block. -/
def LzBox (g gl most sz wd nx : Nat) (vt : Value) (lc : Int) (vw vo : Value) (en : Bool) (er : Int) (w : World) : Prop :=
  w.heap[g]? = some (.cells #[.pointer (some ⟨gl, 0, none⟩), .int .i64 (most : Nat), .int .i64 (sz : Nat), .int .i64 (wd : Nat), .int .i64 (nx : Nat), vt, .int .i64 lc, vw, vo, .bool en, .int .i64 er] 70 (0, 0))
/-- The codes' own knowledge. -/
structure LzPu (n cl sz : Nat) (s : Cz) (lc : Int) (t : List (Nat × Nat)) : Prop where
  good : GoodC n cl sz s
  tb : TabOk cl s.rows t
  l0 : s.last = none → lc = -1
  l1 : ∀ l, s.last = some l → ∃ c : Nat, lc = (c : Nat) ∧ c < cl + 2 + s.rows.length ∧ rowOf cl s.rows c = some l
/-- An error's number, thrown. -/
def PanE (er : Int) (e : Ending) : Prop := e = .panicked [{ v := .iface 24 (.int .i64 er), recovered := false }]
theorem LzMem.one {g gl : Nat} {A : Option Addr} {n cap : Nat} {b : Nat → Nat} {p : Nat} {vt vw vo : Value} {t : List (Nat × Nat)} {wt o : List Nat} {S : List Nat} {w : World} (h : LzMem g gl A n cap b p vt vw vo t wt o S w) (c B : Nat) (hB : B = w.heap.size) :
    LzMem g gl A n cap b p vt (.slice (some ⟨B, 0, none⟩) 1 1) vo t [c] o S (w.alloc (.cells #[.int .u8 (c : Nat)] 5)) := by
  subst hB
  have hgs := h.gs
  refine (h.below ((Below.refl _ w).alloc (Nat.le_refl _) _)).newWts ⟨_, _, rfl, Nat.le_refl _, by simp [maxLen], (fun e => by cases e), fun _ => ⟨_, 0, rfl, by simp, fun j hj => ?_⟩, fun a hA => ?_⟩
  · have hj : j < 1 := hj
    obtain rfl : j = 0 := by omega
    exact hp_cell (j := 0) (hp_new0 w _) rfl
  · cases hA
    exact ⟨hgs, by simp, (fun e => absurd (h.tab.lt _ e).2 (Nat.lt_irrefl _)), (fun e => absurd (h.out.lt _ e).2 (Nat.lt_irrefl _))⟩
theorem info81 : (Try.prog.info? 81).map (fun i => (i.zero, i.size, i.bytes)) = some (some (.agg #[.int .i64 0, .int .u8 0]), 2, 16) := by kernel_rfl
theorem LzMem.row {g gl : Nat} {A : Option Addr} {n cap : Nat} {b : Nat → Nat} {p : Nat} {vt vw vo : Value} {t : List (Nat × Nat)} {wt o : List Nat} {S : List Nat} {w : World} (h : LzMem g gl A n cap b p vt vw vo t wt o S w) {base gv cv : Nat} {L : List Nat}
    (hw : w.ownsRow base 5 1 (.slice (some ⟨gv, 0, none⟩) L.length cv) L.length (cellsB L)) (hg : g < gv) (h1 : vt.ownBlock ≠ some gv) (h2 : vo.ownBlock ≠ some gv) : LzMem g gl A n cap b p vt (.slice (some ⟨gv, 0, none⟩) L.length cv) vo t L o S w := by
  obtain ⟨A', c', he, q1, q2, q3, q4⟩ := byt_of_row hw
  injection he with e1 e2 e3
  subst e1 e3
  refine h.newWts ⟨_, _, rfl, q1, q2, q3, q4, fun a hA => ?_⟩
  cases hA
  exact ⟨hg, (hw.lt gv rfl).2, h1, h2⟩
section
variable (g gl : Nat) (A : Option Addr) (n cap : Nat) (b : Nat → Nat) (most sz cl : Nat)
set_option maxRecDepth 100000 in
set_option maxHeartbeats 1000000 in
theorem first_yes (hcl : Hid (cl = 2 ^ sz)) (hs : sz ≤ 8) (hc4 : 4 ≤ cl ∧ cl ≤ 256) (p wd nx : Nat) (vt vw vo : Value) (lc : Int) (en : Bool) (er : Int) (t : List (Nat × Nat)) (wt o : List Nat) (S : List Nat) (c : Nat) (hlt : c < cl) (w : World)
    (hb : LzBox g gl most sz wd nx vt lc vw vo en er w) (hm : LzMem g gl A n cap b p vt vw vo t wt o S w) :
    Calls Try.prog 46 #[.pointer (some ⟨g, 0, none⟩), .int .i64 (c : Nat)] w fun e w' => e = .returned (.tuple #[]) ∧ ∃ vw', LzBox g gl most sz wd nx vt (c : Nat) vw' vo en er w' ∧ LzMem g gl A n cap b p vt vw' vo t [c] o S w' ∧ Chg S w w' := by
  have hb' : w.heap[g]? = _ := hb
  have c2 := hp_cell (j := 2) hb' rfl
  have c6 := hp_cell (j := 6) hb' rfl
  have c7 := hp_cell (j := 7) hb' rfl
  have ff := fun j => hp_froz hb' j
  have d1 : decide ((cl : Int) ≤ (c : Int)) = false := by simp; omega
  have w8 : IntKind.u8.wrap (c : Int) = (c : Int) := by rw [IntKind.wrap_u8']; omega
  have hgs := hm.gs
  have hs1 := hm.s1
  have HM := Lib.hid hm
  have HBX := Lib.hid hb'
  clear hb hb' hm
  go_enter Try.func46, Try.ntmps46
  go_wp2_with (first | (go_at_call 40; refine (clear_c g 2 sz cl hs hcl _ c2).mono ?_; rintro e w' ⟨rfl, rfl⟩))
  have hc : Chg [g] w ((w.setCell ⟨g, 7, none⟩ (.slice (some ⟨w.heap.size, 0, none⟩) 1 1)).setCell ⟨g, 6, none⟩ (.int .i64 (c : Nat))) := (((Chg.refl _ w).set (.inl (by simp)) _ _).set (.inl (by simp)) _ _)
  go_end0
  exact ⟨rfl, _, hp_alloc _ (heap_set (W := w.setCell ⟨g, 7, none⟩ (.slice (some ⟨w.heap.size, 0, none⟩) 1 1)) (heap_set HBX.out)), (HM.out.setG hc (by simp)).one c _ (by simp [World.setCell]), (hc.mono (by simpa using hs1)).alloc _⟩
set_option maxRecDepth 100000 in
set_option maxHeartbeats 1000000 in
theorem first_no (hcl : Hid (cl = 2 ^ sz)) (hs : sz ≤ 8) (p wd nx : Nat) (vt vw vo : Value) (lc : Int) (en : Bool) (er : Int) (c : Nat) (hlt : ¬ c < cl) (w : World)
    (hb : LzBox g gl most sz wd nx vt lc vw vo en er w) :
    Calls Try.prog 46 #[.pointer (some ⟨g, 0, none⟩), .int .i64 (c : Nat)] w fun e w' => PanE 4 e ∧ w = w' := by
  have hb' : w.heap[g]? = _ := hb
  have c2 := hp_cell (j := 2) hb' rfl
  have d1 : decide ((cl : Int) ≤ (c : Int)) = true := by simp; omega
  clear hb hb'
  go_enter Try.func46, Try.ntmps46
  go_wp2_with (first | (go_at_call 40; refine (clear_c g 2 sz cl hs hcl _ c2).mono ?_; rintro e w' ⟨rfl, rfl⟩))
  exact ⟨rfl, rfl, rfl⟩
/-- The row that a further code says lies in memory. -/
def RowAt (w : World) (L : List Nat) (s4 : Value) (wx : World) : Prop := wx.ownsRow w.heap.size 5 1 s4 L.length (cellsB L) ∧ Below w.heap.size w wx
set_option maxRecDepth 100000 in
set_option maxHeartbeats 2000000 in
theorem further_yes (hcl : Hid (cl = 2 ^ sz)) (hs : sz ≤ 8) (hc4 : 4 ≤ cl ∧ cl ≤ 256) (p wd nx : Nat) (vt vw vo : Value) (lc : Nat) (en : Bool) (er : Int) (rows : List (List Nat)) (t : List (Nat × Nat)) (wt o : List Nat) (S : List Nat) (c : Nat) (L l0 : List Nat)
    (hnx : Hid (nx = cl + 2 + rows.length)) (hfull : nx ≤ 4096) (hwd : wd ≤ 12) (hT : TabOk cl rows t) (hl0 : rowOf cl rows lc = some l0) (hl0l : l0.length ≤ 4999) (hl0p : 0 < l0.length)
    (hc : (c < nx ∧ rowOf cl rows c = some L) ∨ (c = nx ∧ c < 4096 ∧ L = l0 ++ [l0.headD 0])) (hLl : L.length ≤ 5000) (hLp : 0 < L.length) (h256 : ∀ x ∈ L, x < 256) (hlc : lc < 4096) (w : World)
    (hb : LzBox g gl most sz wd nx vt lc vw vo en er w) (hm : LzMem g gl A n cap b p vt vw vo t wt o S w) :
    Calls Try.prog 47 #[.pointer (some ⟨g, 0, none⟩), .int .i64 (c : Nat)] w fun e w' => e = .returned (.tuple #[]) ∧ ∃ vt' vw' t' S', (nx < 4096 → t' = t ++ [(lc, L.headD 0)]) ∧ (¬ nx < 4096 → t' = t) ∧
      LzBox g gl most sz (growB wd nx) (growN nx) vt' (c : Nat) vw' vo en er w' ∧ LzMem g gl A n cap b p vt' vw' vo t' L o S' w' ∧ More S S' w ∧ Chg S w w' := by
  obtain ⟨i0, hi, hz0, hz1, hz2⟩ := info_parts info8
  have hb' : w.heap[g]? = _ := hb
  have c2 := hp_cell (j := 2) hb' rfl
  have c4 := hp_cell (j := 4) hb' rfl
  have c5 := hp_cell (j := 5) hb' rfl
  have c6 := hp_cell (j := 6) hb' rfl
  have hgs := hm.gs
  have HM := Lib.hid hm
  have HBX := Lib.hid hb'
  have hfl : cl + 2 + rows.length ≤ 4096 := by rw [← hnx.out]; exact hfull
  have HF := Lib.hid hfl
  clear hb hb' hm hfl
  go_enter Try.func47, Try.ntmps47
  go_upto_block 0 with fail
  go_cut [4] (fun s4 wx => RowAt w L s4 wx)
  case first =>
    rcases hc with ⟨hlt, hro⟩ | ⟨rfl, h40, hL⟩
    · go_wp2_with fail
      refine (row_r g sz cl (g + 1) vt rows t hs hc4 hcl HF.out hT c L hro hLl _ c2 c5 HM.out.tab).mono ?_
      rintro e w1 ⟨v, rfl, hown, hB⟩
      have H1 := Lib.hid hown
      have H2 := Lib.hid hB
      clear hown hB
      go_wp2_with fail
      go_meet
      exact ⟨H1.out, H2.out⟩
    · have HL := Lib.hid hL
      clear hL
      go_wp2_with fail
      refine (row_r g sz cl (g + 1) vt rows t hs hc4 hcl HF.out hT lc l0 hl0 (by omega) _ c2 c5 HM.out.tab).mono ?_
      rintro e w1 ⟨v, rfl, hown, hB⟩
      obtain ⟨gv, cv, rfl⟩ := own_some hown (by omega)
      have hz : l0[0]? = some (l0.headD 0) := by
        cases l0 with
        | nil => simp at hl0p
        | cons a q => rfl
      have k0 := own_cell hown hz
      generalize l0.headD 0 = x0 at *
      clear hz
      go_wp2_with (at_builtin; refine wpList_append_own_at _ rfl _ _ 22 rfl w.heap.size 5 i0 _ 1 1 Try.underlying22 hi hz0 hz1 hz2 rfl (by decide) _ _ _ rfl (hown.alloc _) ⟨w1.heap.size, 0, none⟩ 1 1 [.int .u8 (x0 : Nat)] rfl rfl ?_ ?_ ?_ ?_ ?_ ?_)
      · intro j u hj
        cases j with
        | zero => simp at hj; subst hj; exact hp_cell (j := 0) (hp_new0 w1 _) rfl
        | succ j => simp at hj
      · intro u hu; simp at hu; subst hu; rfl
      · unfold maxLen; omega
      · omega
      · have := hB.size; simp; omega
      intro u2 w4 hown' hgrow _ hat
      have hB4 := bel_grown (hB.alloc hB.size (.cells #[.int .u8 (x0 : Nat)] 5)) hgrow (fun r hr => (hown.lt r hr).1) (by have := hB.size; simp; omega)
      rw [← cellsB_snoc, ← HL.out] at hown'
      replace hown' := own_len (show l0.length + 1 = L.length by rw [HL.out, List.length_append]; rfl) hown'
      have H1 := Lib.hid hown'
      have H2 := Lib.hid hB4
      clear hown' hB4 hgrow hat hown hB k0
      go_wp2_with fail
      go_meet
      exact ⟨H1.out, H2.out⟩
  case rest =>
    obtain ⟨hown, hB⟩ := hcut
    obtain ⟨gv, cv, rfl⟩ := own_some hown (by omega)
    have hb1 := hp_below HBX.out hB hgs
    have hm1 := HM.out.below hB
    have hz : L[0]? = some (L.headD 0) := by
      cases L with
      | nil => simp at hLp
      | cons a q => rfl
    have hx0 : L.headD 0 < 256 := by
      cases L with
      | nil => simp at hLp
      | cons a q => exact h256 a (by simp)
    obtain ⟨x0, hx⟩ : ∃ x0, x0 = L.headD 0 := ⟨_, rfl⟩
    rw [← hx] at hz hx0
    have HX := Lib.hid hx
    have hW3 : W3 g 2 sz wd nx wc := ⟨hp_cell (j := 2) hb1 rfl, hp_cell (j := 3) hb1 rfl, hp_cell (j := 4) hb1 rfl, fun j => hp_froz hb1 j⟩
    have HB1 := Lib.hid hB
    have HM1 := Lib.hid hm1
    have HBX1 := Lib.hid hb1
    have HO1 := Lib.hid hown
    have HZ := Lib.hid hz
    clear hx hB hm1 hb1 hown hz c2 c4 c5 c6
    go_wp2_with fail
    refine (grow_w g 2 sz wd nx hwd hfull _ hW3).mono ?_
    rintro e w2 ⟨rfl, hS2⟩
    have hb2 := hS2.blk _ _ HBX1.out
    have hg2 : ∀ k ∈ [g], k < w.heap.size ∨ wc.heap.size ≤ k := fun k hk => by simp at hk; omega
    have ho2 := own_chg' HO1.out hS2.chg hg2
    have hm2 := HM1.out.setG hS2.chg (by simp)
    have hC2 : Chg S w w2 := (Chg.of_below HB1.out).trans (hS2.chg.mono (by simpa using hm2.s1))
    have k0 := own_cell ho2 HZ.out
    have k5 := hp_cell (j := 5) hb2 rfl
    have k6 := hp_cell (j := 6) hb2 rfl
    have k7 := hp_cell (j := 7) hb2 rfl
    have ff := fun j => hp_froz hb2 j
    have hgv := own_far ho2
    have hgv2 := (ho2.lt gv rfl).2
    have hs2 := hS2.chg.size
    have hg2s := hm2.gs
    have HB2 := Lib.hid hb2
    have HM2 := Lib.hid hm2
    have HO2 := Lib.hid ho2
    have HC2 := Lib.hid hC2
    have hwc := HB1.out.size
    clear hS2 hW3 hb2 hm2 ho2 hC2 hg2
    by_cases hlt : nx < 4096
    · have dt : decide (nx < 4096) = true := by simp; omega
      obtain ⟨i1, hi1, hy0, hy1, hy2⟩ := info_parts info81
      have hA := HM2.out.below ((Below.refl _ w2).alloc (Nat.le_refl _) (.cells #[.int .i64 (lc : Nat), .int .u8 (x0 : Nat)] 81)).drew
      have hnw := hp_new0 w2 (.cells #[.int .i64 (lc : Nat), .int .u8 (x0 : Nat)] 81)
      have htl : t.length ≤ 4096 := by rw [hT.len]; have := HF.out; omega
      obtain ⟨vt', w3, hr3, hown3, hgrow3, hat3⟩ := run_app (P := Try.prog) (w := (w2.alloc (.cells #[.int .i64 (lc : Nat), .int .u8 (x0 : Nat)] 81)).drew) (g + 1) 68 68 81 i1 (.agg #[.int .i64 0, .int .u8 0]) 2 16 Try.underlying68 hi1 hy0 hy1 hy2 rfl (by omega) vt t.length (tabCells t) hA.tab
        (some ⟨w2.heap.size, 0, none⟩) 1 1 [.int .i64 (lc : Nat), .int .u8 (x0 : Nat)] (by simp) rfl (fun _ => ⟨_, 0, rfl, fun j u hj => by
          match j, hj with
          | 0, hj => simp at hj; subst hj; exact hp_cell (j := 0) hnw rfl
          | 1, hj => simp at hj; subst hj; exact hp_cell (j := 1) hnw rfl
          | j + 2, hj => simp at hj⟩) (by intro u hu; simp at hu; rcases hu with rfl | rfl <;> rfl) (by unfold maxLen; omega) (by omega) (by simp; omega)
      rw [← tabCells_snoc] at hown3
      replace hown3 := own_len (show t.length + 1 = (t ++ [(lc, x0)]).length by simp) hown3
      obtain ⟨S', hm3, hMo, hC3⟩ := LzMem.newTab (t' := t ++ [(lc, x0)]) (w := (w2.alloc (.cells #[.int .i64 (lc : Nat), .int .u8 (x0 : Nat)] 81)).drew) hA hgrow3 hown3 hat3
      obtain ⟨gt, ct, rfl⟩ := own_some hown3 (by simp)
      have hb3 := (hgrow3.block g (by simp; omega) (fun e => by have := (HM.out.tab.lt _ e.symm).1; omega)).trans (hp_alloc (.cells #[.int .i64 (lc : Nat), .int .u8 (x0 : Nat)] 81) HB2.out)
      have m5 := hp_cell (j := 5) hb3 rfl
      have m6 := hp_cell (j := 6) hb3 rfl
      have m7 := hp_cell (j := 7) hb3 rfl
      have mf := fun j => hp_froz hb3 j
      have hgt : gt ≠ gv := by
        rintro rfl
        rcases hat3 with e | e
        · have h9 : gt < w.heap.size := (HM.out.tab.lt _ e.symm).2
          omega
        · injection e with e
          have h9 : gt = w2.heap.size + 1 := by simpa using e
          omega
      have hC3' : Chg vt.ownBlock.toList w2 w3 := (((Chg.refl vt.ownBlock.toList w2).alloc (.cells #[.int .i64 (lc : Nat), .int .u8 (x0 : Nat)] 81)).drew).trans (Chg.grown hgrow3 (fun r hr => by rw [hr]; simp))
      have ho3 := own_chg HO2.out hC3' (fun k hk hm => by cases hk; have h9 : gv < w.heap.size := (HM.out.tab.lt _ (by simpa using hm)).2; omega)
      have hCx := HC2.out.trans (hC3'.mono (fun k hk => HM.out.s3 k (by simpa using hk)))
      have HCX := Lib.hid hCx
      have HMO := Lib.hid hMo
      have ht3 : w2.heap.size ≤ w3.heap.size := hC3'.size
      have HO3 := Lib.hid ho3
      have HB3 := Lib.hid hb3
      have HR3 := Lib.hid hr3
      rw [show (t ++ [(lc, x0)]).length = t.length + 1 by simp] at hm3
      have HM3 := Lib.hid hm3
      clear hA hr3 hown3 hm3 hat3 hgrow3 hb3 hnw ho3 hC3' hCx hMo hC3
      go_wp2_with fail
      go_region_law (first | (refine step_app (by rfl) _ _ _ (by rfl) _ _ _ _ (by rfl) (by rfl) HR3.out ?_) | fail)
      all_goals
        go_wp2
        go_end0
        have hc3 : Chg [g] w3 (((w3.setCell ⟨g, 5, none⟩ (.slice (some ⟨gt, 0, none⟩) (t.length + 1) ct)).setCell ⟨g, 7, none⟩ (.slice (some ⟨gv, 0, none⟩) L.length cv)).setCell ⟨g, 6, none⟩ (.int .i64 (c : Nat))) := ((((Chg.refl _ w3).set (.inl (by simp)) _ _).set (.inl (by simp)) _ _).set (.inl (by simp)) _ _)
        refine ⟨rfl, .slice (some ⟨gt, 0, none⟩) (t.length + 1) ct, .slice (some ⟨gv, 0, none⟩) L.length cv, t ++ [(lc, x0)], S', (fun _ => by rw [HX.out]), (fun h => absurd hlt h), heap_set (heap_set (heap_set HB3.out)), ?_, ?_, HCX.out.trans (hc3.mono (by simpa using HM.out.s1))⟩
        · refine (HM3.out.setG hc3 (by simp)).row (own_chg' HO3.out hc3 (by simp; omega)) (by omega) (fun e => ?_) (fun e => ?_)
          · injection e with e
            exact hgt e
          · have h9 : gv < w.heap.size := (HM.out.out.lt _ e).2
            omega
        · intro k hk
          rcases HMO.out k hk with h9 | h9
          · exact .inl h9
          · exact .inr (by have h8 : w2.heap.size + 1 ≤ k := by simpa using h9
                           omega)
    · have dt : decide (nx < 4096) = false := by simp; omega
      go_wp2
      go_end0
      have hc3 : Chg [g] w2 ((w2.setCell ⟨g, 7, none⟩ (.slice (some ⟨gv, 0, none⟩) L.length cv)).setCell ⟨g, 6, none⟩ (.int .i64 (c : Nat))) := (((Chg.refl _ w2).set (.inl (by simp)) _ _).set (.inl (by simp)) _ _)
      refine ⟨rfl, vt, _, t, S, (fun h => absurd h hlt), (fun _ => rfl), heap_set (heap_set HB2.out), ?_, More.refl _ _, HC2.out.trans (hc3.mono (by simpa using HM2.out.s1))⟩
      refine (HM2.out.setG hc3 (by simp)).row (own_chg' HO2.out hc3 (by simp; omega)) (by omega) (fun e => ?_) (fun e => ?_)
      · have := (HM.out.tab.lt _ e).2; omega
      · have := (HM.out.out.lt _ e).2; omega
end
end Go.Proofs.Ytioghgnngdcicaa
