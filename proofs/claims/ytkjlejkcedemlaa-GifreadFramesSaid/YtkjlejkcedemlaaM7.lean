/- A reader of GIF's codes: one step, whatever stands there. A reader of GIF's codes: one code. A reader of GIF's codes: one step goes on to what all of it comes to. lzw.tried: what a closure broke with. A reader of GIF's codes: Step. -/
import Derived.Test.YtkjlejkcedemlaaM6
import Derived.Deep.LoopGhost
namespace Go.Proofs.Ytkjlejkcedemlaa
set_option maxRecDepth 100000
set_option linter.unusedVariables false
open Go.ChangeShapes Go.WideShapes Go.ChangeAt Go.RowKit

/-- A reader's end, thrown. -/
def StopE (e : Ending) : Prop := e = .panicked [{ v := .iface 120 (.agg #[]), recovered := false }]
set_option maxRecDepth 100000 in
set_option maxHeartbeats 1000000 in
theorem ask_end (T : TypeId) (g : Nat) (A : Option Addr) (n cap : Nat) (b : Nat → Nat) (p : Nat) (vo : Value) (fr : Int) (hn : n ≤ 1000000) (hp : p ≤ 8 * n) (k : Nat) (hk : 8 * n < p + k) (hk24 : k ≤ 24) (w : World) (h : Rd T g A n cap b p vo fr w) :
    Calls Try.prog 75 #[.pointer (some ⟨g, 0, none⟩), .int .i64 (k : Nat)] w fun e w' => StopE e ∧ ∃ m, w' = w.drewN m := by
  go_enter Try.func75, Try.ntmps75
  have d1 : decide ((k : Int) < 0) = false := by simp
  have d2 : decide (24 < (k : Int)) = false := by simp; omega
  go_wp2_with fail
  refine (left_row T g A n cap b p vo fr hn hp _ h).mono ?_
  rintro e w1 ⟨rfl, m, rfl⟩
  have d3 : decide (8 * n - p < k) = true := by simp; omega
  go_wp2
  exact ⟨rfl, rfl, _, rfl⟩
set_option maxRecDepth 100000 in
set_option maxHeartbeats 1000000 in
theorem takeL_end (g : Nat) (A : Option Addr) (n cap : Nat) (b : Nat → Nat) (p : Nat) (vo : Value) (fr : Int) (hn : n ≤ 1000000) (hp : p ≤ 8 * n) (k : Nat) (hk : 8 * n < p + k) (hk24 : k ≤ 24) (w : World) (h : Rd 117 g A n cap b p vo fr w) :
    Calls Try.prog 71 #[.pointer (some ⟨g, 0, none⟩), .int .i64 (k : Nat)] w fun e w' => StopE e ∧ ∃ m, w' = w.drewN m := by
  have c0 := hp_cell (j := 0) h.box rfl
  go_enter Try.func71, Try.ntmps71
  go_wp2_with fail
  refine (ask_end _ g A n cap b p vo fr hn hp k hk hk24 _ h).mono ?_
  rintro e w1 ⟨rfl, m, rfl⟩
  go_wp2
  exact ⟨rfl, rfl, m, rfl⟩
set_option maxRecDepth 100000 in
set_option maxHeartbeats 2000000 in
theorem emit_no (g gl : Nat) (A : Option Addr) (n cap : Nat) (b : Nat → Nat) (most sz : Nat) (p wd nx : Nat) (vt vw vo : Value) (lc : Int) (er : Int) (t : List (Nat × Nat)) (wt o : List Nat) (S : List Nat) (hmost : most ≤ 1000000) (ho : most ≤ o.length) (hwt : 0 < wt.length) (w : World)
    (hb : LzBox g gl most sz wd nx vt lc vw vo false er w) (hm : LzMem g gl A n cap b p vt vw vo t wt o S w) :
    Calls Try.prog 65 #[.pointer (some ⟨g, 0, none⟩)] w fun e w' => PanE 6 e ∧ ∃ m, w' = w.drewN m := by
  obtain ⟨Aw, cw, rfl, q1, q2, q3, q4, q5⟩ := hm.wts
  obtain ⟨_, Ao, co, rfl, s1, s2, _⟩ := Sl.of_own hm.out
  have hb' : w.heap[g]? = _ := hb
  obtain ⟨M, hM⟩ : ∃ M, M = wt.length := ⟨_, rfl⟩
  rw [← hM] at hb' hwt
  have c1 := hp_cell (j := 1) hb' rfl
  have c7 := hp_cell (j := 7) hb' rfl
  have c8 := hp_cell (j := 8) hb' rfl
  have d1 : decide (most ≤ o.length) = true := by simp; omega
  clear hb hb' hm q4 q5 hM
  go_enter Try.func65, Try.ntmps65
  go_wp2_with fail
  go_quiet (fail)
  go_wp2_with fail
  exact ⟨rfl, rfl, _, rfl⟩
set_option maxRecDepth 100000 in
set_option maxHeartbeats 2000000 in
theorem one_end (g gl : Nat) (A : Option Addr) (n cap : Nat) (b : Nat → Nat) (most sz : Nat) (p wd nx : Nat) (vt vw vo : Value) (lc : Int) (er : Int) (t : List (Nat × Nat)) (o : List Nat) (S : List Nat) (hn : n ≤ 1000000) (hp : p ≤ 8 * n) (hk : 8 * n < p + wd) (hk24 : wd ≤ 12) (w : World)
    (hb : LzBox g gl most sz wd nx vt lc vw vo false er w) (hm : LzMem g gl A n cap b p vt vw vo t [] o S w) :
    Calls Try.prog 65 #[.pointer (some ⟨g, 0, none⟩)] w fun e w' => StopE e ∧ ∃ m, w' = w.drewN m := by
  obtain ⟨Aw, cw, rfl, q1, q2, q3, q4, q5⟩ := hm.wts
  have hb' : w.heap[g]? = _ := hb
  have c0 := hp_cell (j := 0) hb' rfl
  have c3 := hp_cell (j := 3) hb' rfl
  have c7 := hp_cell (j := 7) hb' rfl
  have HR := Lib.hid hm.rd
  clear hb hb' hm q4 q5
  go_enter Try.func65, Try.ntmps65
  go_wp2_with fail
  go_still_tail 9, (by kernel_rfl)
  change wpList _ _ _ _ _ w.drew
  go_wp2_with fail
  refine (takeL_end gl A n cap b p _ _ hn hp wd hk (by omega) _ (HR.out.chg ((Chg.refl [] w).drew) (by simp) (fun _ _ _ => by simp))).mono ?_
  rintro e w1 ⟨rfl, m, rfl⟩
  go_wp2_with fail
  exact ⟨rfl, rfl, 1 + m, rfl⟩
/-- Where the reader stands behind a row's code, the row still to be put out. -/
def Cz.stepQ (s : Cz) (cl : Nat) (row : List Nat) : Cz := ⟨s.p + s.wd, wideC cl s.wd s.rows s.last, rowsC cl s.rows s.last row, some row, s.out⟩
def Cz.on (s : Cz) : Cz := ⟨s.p + s.wd, s.wd, s.rows, s.last, s.out⟩
theorem GoodC.on {n cl sz : Nat} {s : Cz} (h : GoodC n cl sz s) (hp : s.p + s.wd ≤ 8 * n) : GoodC n cl sz s.on := ⟨h.clv, h.sz2, h.sz8, h.wd1, h.wd2, hp, h.full, h.rows, h.last, h.none, h.out⟩
theorem GoodC.stepQ {n cl sz : Nat} {s : Cz} (h : GoodC n cl sz s) (hp : s.p + s.wd ≤ 8 * n) (c : Nat) (hlt : c < 4096) (hc : c ≠ cl) (hc1 : c ≠ cl + 1) (hb : badC cl s.rows s.last c = false) : GoodC n cl sz (s.stepQ cl (rowC cl s.rows s.last c)) := by
  have g := h.step hp c hlt hc hc1 hb
  exact ⟨g.clv, g.sz2, g.sz8, g.wd1, g.wd2, g.p, g.full, g.rows, g.last, g.none, h.out⟩
theorem rowOf_mono {cl : Nat} {rows x : List (List Nat)} {c : Nat} {l : List Nat} (h : rowOf cl rows c = some l) : rowOf cl (rows ++ x) c = some l := by
  unfold rowOf at h ⊢
  by_cases h1 : c < cl
  · rw [if_pos h1] at h ⊢; exact h
  · rw [if_neg h1] at h ⊢
    by_cases h2 : c < cl + 2
    · rw [if_pos h2] at h; cases h
    · rw [if_neg h2] at h ⊢
      rw [List.getElem?_append_left (List.getElem?_eq_some_iff.1 h).1]
      exact h
theorem TabOk.snoc {cl : Nat} {rows : List (List Nat)} {t : List (Nat × Nat)} (h : TabOk cl rows t) {c v : Nat} {l : List Nat} (hc : c < cl + 2 + rows.length) (hl : rowOf cl rows c = some l) (hv : v < 256) : TabOk cl (rows ++ [l ++ [v]]) (t ++ [(c, v)]) := by
  refine ⟨by simp [h.len], fun i r hi => ?_⟩
  by_cases hlt : i < rows.length
  · rw [List.getElem?_append_left hlt] at hi
    obtain ⟨a, v', pre, h1, h2, h3, h4, h5⟩ := h.row i r hi
    exact ⟨a, v', pre, by rw [List.getElem?_append_left (by rw [h.len]; exact hlt)]; exact h1, h2, h3, rowOf_mono h4, h5⟩
  · rw [List.getElem?_append_right (by omega)] at hi
    have h0 : i - rows.length = 0 := by
      have := (List.getElem?_eq_some_iff.1 hi).1
      simp at this
      omega
    rw [h0] at hi
    simp at hi
    subst hi
    exact ⟨c, v, l, by rw [List.getElem?_append_right (by rw [h.len]; omega), h.len, h0]; rfl, by omega, hv, rowOf_mono hl, rfl⟩
theorem rowOf_next (cl : Nat) (rows : List (List Nat)) (r : List Nat) : rowOf cl (rows ++ [r]) (cl + 2 + rows.length) = some r := by
  unfold rowOf
  rw [if_neg (by omega), if_neg (by omega), show cl + 2 + rows.length - cl - 2 = rows.length by omega]
  simp
theorem growB_eq (cl wd : Nat) (rows : List (List Nat)) (l : List Nat) : growB wd (cl + 2 + rows.length) = wideC cl wd rows (some l) := by
  unfold growB wideC
  simp
theorem growN_eq (cl : Nat) (rows : List (List Nat)) (l row : List Nat) : growN (cl + 2 + rows.length) = cl + 2 + (rowsC cl rows (some l) row).length := by
  rw [rowsC_len]
  unfold growN
  simp only [Option.isSome_some, true_and]
  split <;> omega
/-- What a further code says. -/
theorem further_pure {n cl sz : Nat} {s : Cz} {lc : Int} {t : List (Nat × Nat)} (h : LzPu n cl sz s lc t) (c : Nat) (hlt : c < 4096) (hc : c ≠ cl) (hc1 : c ≠ cl + 1) (hb : badC cl s.rows s.last c = false) (l0 : List Nat) (hl : s.last = some l0) :
    (c < cl + 2 + s.rows.length ∧ rowOf cl s.rows c = some (rowC cl s.rows s.last c)) ∨ (c = cl + 2 + s.rows.length ∧ c < 4096 ∧ rowC cl s.rows s.last c = l0 ++ [l0.headD 0]) := by
  unfold badC at hb
  rw [hl] at hb
  by_cases h1 : c < cl
  · refine .inl ⟨by omega, ?_⟩
    unfold rowOf rowC
    rw [if_pos h1, if_pos h1]
  · simp [h1] at hb
    by_cases h2 : c = cl + 2 + s.rows.length
    · refine .inr ⟨h2, hlt, ?_⟩
      unfold rowC
      rw [if_neg h1, if_pos h2, hl]
      rfl
    · refine .inl ⟨by omega, ?_⟩
      unfold rowOf rowC
      rw [if_neg h1, if_neg (by omega), if_neg h1, if_neg h2, List.getElem?_eq_getElem (by omega)]
      rfl
theorem LzPu.further {n cl sz : Nat} {s : Cz} {lc : Int} {t t' : List (Nat × Nat)} (h : LzPu n cl sz s lc t) (hp : s.p + s.wd ≤ 8 * n) (c : Nat) (hlt : c < 4096) (hc : c ≠ cl) (hc1 : c ≠ cl + 1) (hb : badC cl s.rows s.last c = false) (l0 : List Nat) (hl : s.last = some l0) (k : Nat) (hk : lc = (k : Nat))
    (h1 : cl + 2 + s.rows.length < 4096 → t' = t ++ [(k, (rowC cl s.rows s.last c).headD 0)]) (h2 : ¬ cl + 2 + s.rows.length < 4096 → t' = t) : LzPu n cl sz (s.stepQ cl (rowC cl s.rows s.last c)) (c : Nat) t' := by
  have hf := further_pure h c hlt hc hc1 hb l0 hl
  have hg := h.good.stepQ hp c hlt hc hc1 hb
  have hok := rowC_ok h.good c hc hc1 hb
  obtain ⟨k', hk', hkl, hkr⟩ := h.l1 l0 hl
  have hkk : k' = k := by omega
  subst hkk
  generalize rowC cl s.rows s.last c = row at *
  have hrows : (s.stepQ cl row).rows = rowsC cl s.rows s.last row := rfl
  by_cases hfull : cl + 2 + s.rows.length < 4096
  · have he : rowsC cl s.rows s.last row = s.rows ++ [l0 ++ [row.headD 0]] := by unfold rowsC; rw [hl, if_pos ⟨rfl, hfull⟩]; rfl
    have ht' := h1 hfull
    subst ht'
    refine ⟨hg, ?_, (fun e => by cases e), fun l e => ?_⟩
    · rw [hrows, he]
      exact h.tb.snoc hkl hkr (head_lt hok.1)
    · have e' : some row = some l := e
      injection e' with e'
      subst e'
      rw [hrows, he]
      refine ⟨c, rfl, ?_, ?_⟩
      · rcases hf with h9 | h9 <;> simp <;> omega
      · rcases hf with h9 | h9
        · exact rowOf_mono h9.2
        · rw [h9.1, rowOf_next, h9.2.2]
          congr 2
          cases l0 with
          | nil => exact absurd rfl (h.good.last _ hl).1
          | cons a q => rfl
  · have he : rowsC cl s.rows s.last row = s.rows := by unfold rowsC; rw [if_neg (fun h => hfull h.2)]
    have ht' := h2 hfull
    subst ht'
    refine ⟨hg, by rw [hrows, he]; exact h.tb, (fun e => by cases e), fun l e => ?_⟩
    have e' : some row = some l := e
    injection e' with e'
    subst e'
    rw [hrows, he]
    rcases hf with h9 | h9
    · exact ⟨c, rfl, h9.1, h9.2⟩
    · have := h.good.full
      omega
theorem LzPu.first {n cl sz : Nat} {s : Cz} {lc : Int} {t : List (Nat × Nat)} (h : LzPu n cl sz s lc t) (hp : s.p + s.wd ≤ 8 * n) (c : Nat) (hlt : c < cl) (hl : s.last = none) : LzPu n cl sz (s.stepQ cl [c]) (c : Nat) t := by
  have hcl := cl_le h.good
  have hb : badC cl s.rows s.last c = false := by unfold badC; simp [hlt]
  have hr : rowC cl s.rows s.last c = [c] := by unfold rowC; rw [if_pos hlt]
  have hg := h.good.stepQ hp c (by omega) (by omega) (by omega) hb
  rw [hr] at hg
  have he : rowsC cl s.rows s.last [c] = s.rows := by unfold rowsC; rw [hl, if_neg (by simp)]
  have hrows : (s.stepQ cl [c]).rows = s.rows := he
  refine ⟨hg, by rw [hrows]; exact h.tb, (fun e => by cases e), fun l e => ?_⟩
  have e' : some [c] = some l := e
  injection e' with e'
  subst e'
  refine ⟨c, rfl, by rw [hrows]; omega, ?_⟩
  unfold rowOf
  rw [if_pos hlt]
theorem LzPu.on {n cl sz : Nat} {s : Cz} {lc : Int} {t : List (Nat × Nat)} (h : LzPu n cl sz s lc t) (hp : s.p + s.wd ≤ 8 * n) : LzPu n cl sz s.on lc t := ⟨h.good.on hp, h.tb, h.l0, h.l1⟩
theorem LzPu.reset {n cl sz : Nat} {s : Cz} {lc : Int} {t : List (Nat × Nat)} (h : LzPu n cl sz s lc t) (hp : s.p + s.wd ≤ 8 * n) : LzPu n cl sz (s.reset sz) (-1) [] :=
  ⟨h.good.reset hp, ⟨rfl, fun i r hi => by simp [Cz.reset] at hi⟩, fun _ => rfl, fun l e => by cases e⟩
end Go.Proofs.Ytkjlejkcedemlaa

namespace Go.Proofs.Ytkjlejkcedemlaa
set_option maxRecDepth 100000
set_option linter.unusedVariables false
open Go.ChangeShapes Go.WideShapes Go.ChangeAt Go.RowKit

set_option maxRecDepth 100000 in
set_option maxHeartbeats 1000000 in
theorem further_no (g gl most sz wd nx : Nat) (vt vw vo : Value) (lc : Int) (en : Bool) (er : Int) (c : Nat) (hlt : nx < c) (w : World)
    (hb : LzBox g gl most sz wd nx vt lc vw vo en er w) :
    Calls Try.prog 73 #[.pointer (some ⟨g, 0, none⟩), .int .i64 (c : Nat)] w fun e w' => PanE 4 e ∧ w = w' := by
  have hb' : w.heap[g]? = _ := hb
  have c4 := hp_cell (j := 4) hb' rfl
  have d1 : decide (c < nx) = false := by simp; omega
  have d2 : (c == nx) = false := by rw [beq_eq_false_iff_ne]; omega
  have d3 : ((c : Int) == (nx : Int)) = false := by rw [beq_eq_false_iff_ne]; omega
  clear hb hb'
  go_enter Try.func73, Try.ntmps73
  go_wp2_with fail
  exact ⟨rfl, rfl, rfl⟩
set_option maxRecDepth 100000 in
set_option maxHeartbeats 2000000 in
theorem one_reset (g gl : Nat) (A : Option Addr) (n cap : Nat) (b : Nat → Nat) (hbt : ∀ i, b i < 256) (most sz cl : Nat) (hcl : Hid (cl = 2 ^ sz)) (hs : sz ≤ 8) (hc4 : 4 ≤ cl ∧ cl ≤ 256) (p wd nx : Nat) (vt vw vo : Value) (lc : Int) (er : Int) (t : List (Nat × Nat)) (o : List Nat) (S : List Nat)
    (hn : n ≤ 1000000) (hp : p ≤ 8 * n) (hk : p + wd ≤ 8 * n) (hwd : wd ≤ 12) (c : Nat) (hT : c = takeL b p wd) (hc : c = cl) (w : World)
    (hb : LzBox g gl most sz wd nx vt lc vw vo false er w) (hm : LzMem g gl A n cap b p vt vw vo t [] o S w) :
    Calls Try.prog 65 #[.pointer (some ⟨g, 0, none⟩)] w fun e w' => e = .returned (.tuple #[]) ∧ ∃ vw', LzBox g gl most sz (sz + 1) (cl + 2) (.slice none 0 0) (-1) vw' vo false er w' ∧ LzMem g gl A n cap b (p + wd) (.slice none 0 0) vw' vo [] [] o S w' ∧ Chg S w w' := by
  have hask : askB (wd : Nat) (8 * n - p) = true := by unfold askB; simp; omega
  obtain ⟨Aw, cw, rfl, q1, q2, q3, q4, q5⟩ := hm.wts
  have hb' : w.heap[g]? = _ := hb
  have c0 := hp_cell (j := 0) hb' rfl
  have c3 := hp_cell (j := 3) hb' rfl
  have c7 := hp_cell (j := 7) hb' rfl
  have hgl := hm.glg
  have HR := Lib.hid hm.rd
  have HM := Lib.hid hm
  have HBX := Lib.hid hb'
  have hglS := hm.s2
  have hgS := hm.s1
  have HT := Lib.hid hT
  clear hT
  subst hc
  clear hb hb' hm q4 q5
  go_enter Try.func65, Try.ntmps65
  go_wp2_with fail
  go_still_tail 9, (by kernel_rfl)
  change wpList _ _ _ _ _ w.drew
  go_wp2_with fail
  refine (takeL_yes gl A n cap b p _ _ hn hp hbt wd hask _ (HR.out.chg ((Chg.refl [] w).drew) (by simp) (fun _ _ _ => by simp))).mono ?_
  rintro e w1 ⟨rfl, hC, hR⟩
  rw [← HT.out]
  have hb1 := hp_chg (W := w.drew) HBX.out hC (by simp; omega)
  have hm1 := (HM.out.drewN 1).take hC hR
  have hC1 : Chg S w w1 := ((Chg.refl S w).drew).trans (hC.mono (by simpa using hglS))
  have k2 := hp_cell (j := 2) hb1 rfl
  have k3 := hp_cell (j := 3) hb1 rfl
  have k4 := hp_cell (j := 4) hb1 rfl
  have k5 := hp_cell (j := 5) hb1 rfl
  have k6 := hp_cell (j := 6) hb1 rfl
  have k9 := hp_cell (j := 9) hb1 rfl
  have ff := fun j => hp_froz hb1 j
  have HM1 := Lib.hid hm1
  have HB1 := Lib.hid hb1
  have HC1 := Lib.hid hC1
  clear hC hR hb1 hm1 hC1 c0 c3 c7 HR HM HBX
  have hW3 : W3 g 2 sz wd nx w1 := ⟨k2, k3, k4, ff⟩
  have HW3 := Lib.hid hW3
  clear hW3
  go_wp2_with (first | (go_at_call 69; refine (clear_c g 2 sz c hs hcl _ k2).mono ?_; rintro e w' ⟨rfl, rfl⟩))
  refine (reset_w g 2 sz wd nx hs _ HW3.out).mono ?_
  rintro e w2 ⟨rfl, hS2⟩
  have hb2 := hS2.blk _ _ HB1.out
  have hm2 := HM1.out.setG hS2.chg (by simp)
  have hC2 := HC1.out.trans (hS2.chg.mono (by simpa using hgS))
  have l5 := hp_cell (j := 5) hb2 rfl
  have l6 := hp_cell (j := 6) hb2 rfl
  have lf := fun j => hp_froz hb2 j
  have HM2 := Lib.hid hm2
  have HB2 := Lib.hid hb2
  have HC2 := Lib.hid hC2
  clear hS2 hb2 hm2 hC2 k2 k3 k4 k5 k6 k9 ff
  go_wp2
  go_end0
  have hc3 : Chg [g] w2 ((w2.setCell ⟨g, 5, none⟩ (.slice none 0 0)).setCell ⟨g, 6, none⟩ (.int .i64 (-1))) := (((Chg.refl _ w2).set (.inl (by simp)) _ _).set (.inl (by simp)) _ _)
  have hb3 := heap_set (i := 6) (x := .int .i64 (-1)) (heap_set (i := 5) (x := .slice none 0 0) HB2.out)
  refine ⟨rfl, _, ?_, (HM2.out.nilTab).setG hc3 (by simp), HC2.out.trans (hc3.mono (by simpa using hgS))⟩
  unfold LzBox
  rw [show c = 2 ^ sz from hcl.out]
  exact hb3
set_option maxRecDepth 100000 in
set_option maxHeartbeats 2000000 in
theorem one_fin (g gl : Nat) (A : Option Addr) (n cap : Nat) (b : Nat → Nat) (hbt : ∀ i, b i < 256) (most sz cl : Nat) (hcl : Hid (cl = 2 ^ sz)) (hs : sz ≤ 8) (hc4 : 4 ≤ cl ∧ cl ≤ 256) (p wd nx : Nat) (vt vw vo : Value) (lc : Int) (er : Int) (t : List (Nat × Nat)) (o : List Nat) (S : List Nat)
    (hn : n ≤ 1000000) (hp : p ≤ 8 * n) (hk : p + wd ≤ 8 * n) (hwd : wd ≤ 12) (c : Nat) (hT : c = takeL b p wd) (hc : c = cl + 1) (w : World)
    (hb : LzBox g gl most sz wd nx vt lc vw vo false er w) (hm : LzMem g gl A n cap b p vt vw vo t [] o S w) :
    Calls Try.prog 65 #[.pointer (some ⟨g, 0, none⟩)] w fun e w' => e = .returned (.tuple #[]) ∧ LzBox g gl most sz wd nx vt lc vw vo true er w' ∧ LzMem g gl A n cap b (p + wd) vt vw vo t [] o S w' ∧ Chg S w w' := by
  have hask : askB (wd : Nat) (8 * n - p) = true := by unfold askB; simp; omega
  obtain ⟨Aw, cw, rfl, q1, q2, q3, q4, q5⟩ := hm.wts
  have hb' : w.heap[g]? = _ := hb
  have c0 := hp_cell (j := 0) hb' rfl
  have c3 := hp_cell (j := 3) hb' rfl
  have c7 := hp_cell (j := 7) hb' rfl
  have hgl := hm.glg
  have HR := Lib.hid hm.rd
  have HM := Lib.hid hm
  have HBX := Lib.hid hb'
  have hglS := hm.s2
  have hgS := hm.s1
  have HT := Lib.hid hT
  clear hT
  clear hb hb' hm q4 q5
  go_enter Try.func65, Try.ntmps65
  go_wp2_with fail
  go_still_tail 9, (by kernel_rfl)
  change wpList _ _ _ _ _ w.drew
  go_wp2_with fail
  refine (takeL_yes gl A n cap b p _ _ hn hp hbt wd hask _ (HR.out.chg ((Chg.refl [] w).drew) (by simp) (fun _ _ _ => by simp))).mono ?_
  rintro e w1 ⟨rfl, hC, hR⟩
  rw [← HT.out]
  have hb1 := hp_chg (W := w.drew) HBX.out hC (by simp; omega)
  have hm1 := (HM.out.drewN 1).take hC hR
  have hC1 : Chg S w w1 := ((Chg.refl S w).drew).trans (hC.mono (by simpa using hglS))
  have k2 := hp_cell (j := 2) hb1 rfl
  have k3 := hp_cell (j := 3) hb1 rfl
  have k4 := hp_cell (j := 4) hb1 rfl
  have k5 := hp_cell (j := 5) hb1 rfl
  have k6 := hp_cell (j := 6) hb1 rfl
  have k9 := hp_cell (j := 9) hb1 rfl
  have ff := fun j => hp_froz hb1 j
  have HM1 := Lib.hid hm1
  have HB1 := Lib.hid hb1
  have HC1 := Lib.hid hC1
  clear hC hR hb1 hm1 hC1 c0 c3 c7 HR HM HBX
  have n1 : ((c : Int) == (cl : Int)) = false := by rw [beq_eq_false_iff_ne]; omega
  have n2 : (c == cl) = false := by rw [beq_eq_false_iff_ne]; omega
  have n3 : ((c : Int) == (cl : Int) + 1) = true := by rw [beq_iff_eq]; omega
  have HC := Lib.hid hc
  clear hc
  go_wp2_with (first | (go_at_call 69; refine (clear_c g 2 sz cl hs hcl _ k2).mono ?_; rintro e w' ⟨rfl, rfl⟩))
  go_end0
  have hc3 : Chg [g] w1 (w1.setCell ⟨g, 9, none⟩ (.bool true)) := ((Chg.refl _ w1).set (.inl (by simp)) _ _)
  exact ⟨rfl, heap_set HB1.out, HM1.out.setG hc3 (by simp), HC1.out.trans (hc3.mono (by simpa using hgS))⟩
set_option maxRecDepth 100000 in
set_option maxHeartbeats 2000000 in
theorem one_first (g gl : Nat) (A : Option Addr) (n cap : Nat) (b : Nat → Nat) (hbt : ∀ i, b i < 256) (most sz cl : Nat) (hcl : Hid (cl = 2 ^ sz)) (hs : sz ≤ 8) (hc4 : 4 ≤ cl ∧ cl ≤ 256) (p wd nx : Nat) (vt vw vo : Value) (lc : Int) (er : Int) (t : List (Nat × Nat)) (o : List Nat) (S : List Nat)
    (hn : n ≤ 1000000) (hp : p ≤ 8 * n) (hk : p + wd ≤ 8 * n) (hwd : wd ≤ 12) (c : Nat) (hT : c = takeL b p wd) (hc : c < cl) (hlc : lc = -1) (w : World)
    (hb : LzBox g gl most sz wd nx vt lc vw vo false er w) (hm : LzMem g gl A n cap b p vt vw vo t [] o S w) :
    Calls Try.prog 65 #[.pointer (some ⟨g, 0, none⟩)] w fun e w' => e = .returned (.tuple #[]) ∧ ∃ vw', LzBox g gl most sz wd nx vt (c : Nat) vw' vo false er w' ∧ LzMem g gl A n cap b (p + wd) vt vw' vo t [c] o S w' ∧ Chg S w w' := by
  have hask : askB (wd : Nat) (8 * n - p) = true := by unfold askB; simp; omega
  obtain ⟨Aw, cw, rfl, q1, q2, q3, q4, q5⟩ := hm.wts
  have hb' : w.heap[g]? = _ := hb
  have c0 := hp_cell (j := 0) hb' rfl
  have c3 := hp_cell (j := 3) hb' rfl
  have c7 := hp_cell (j := 7) hb' rfl
  have hgl := hm.glg
  have HR := Lib.hid hm.rd
  have HM := Lib.hid hm
  have HBX := Lib.hid hb'
  have hglS := hm.s2
  have hgS := hm.s1
  have HT := Lib.hid hT
  clear hT
  subst hlc
  clear hb hb' hm q4 q5
  go_enter Try.func65, Try.ntmps65
  go_wp2_with fail
  go_still_tail 9, (by kernel_rfl)
  change wpList _ _ _ _ _ w.drew
  go_wp2_with fail
  refine (takeL_yes gl A n cap b p _ _ hn hp hbt wd hask _ (HR.out.chg ((Chg.refl [] w).drew) (by simp) (fun _ _ _ => by simp))).mono ?_
  rintro e w1 ⟨rfl, hC, hR⟩
  rw [← HT.out]
  have hb1 := hp_chg (W := w.drew) HBX.out hC (by simp; omega)
  have hm1 := (HM.out.drewN 1).take hC hR
  have hC1 : Chg S w w1 := ((Chg.refl S w).drew).trans (hC.mono (by simpa using hglS))
  have k2 := hp_cell (j := 2) hb1 rfl
  have k3 := hp_cell (j := 3) hb1 rfl
  have k4 := hp_cell (j := 4) hb1 rfl
  have k5 := hp_cell (j := 5) hb1 rfl
  have k6 := hp_cell (j := 6) hb1 rfl
  have k9 := hp_cell (j := 9) hb1 rfl
  have ff := fun j => hp_froz hb1 j
  have HM1 := Lib.hid hm1
  have HB1 := Lib.hid hb1
  have HC1 := Lib.hid hC1
  clear hC hR hb1 hm1 hC1 c0 c3 c7 HR HM HBX
  have n1 : ((c : Int) == (cl : Int)) = false := by rw [beq_eq_false_iff_ne]; omega
  have n2 : (c == cl) = false := by rw [beq_eq_false_iff_ne]; omega
  have n3 : ((c : Int) == (cl : Int) + 1) = false := by rw [beq_eq_false_iff_ne]; omega
  go_wp2_with (first | (go_at_call 69; refine (clear_c g 2 sz cl hs hcl _ k2).mono ?_; rintro e w' ⟨rfl, rfl⟩))
  refine (first_yes g gl A n cap b most sz cl hcl hs hc4 (p + wd) wd nx vt _ vo (-1) false er t [] o S c hc _ HB1.out HM1.out).mono ?_
  rintro e w2 ⟨rfl, vw', hb2, hm2, hC2⟩
  have HM2 := Lib.hid hm2
  have HB2 := Lib.hid hb2
  have HC2 := Lib.hid hC2
  clear hb2 hm2 hC2
  go_wp2
  go_end0
  exact ⟨rfl, vw', HB2.out, HM2.out, HC1.out.trans HC2.out⟩
set_option maxRecDepth 100000 in
set_option maxHeartbeats 2000000 in
theorem one_bad1 (g gl : Nat) (A : Option Addr) (n cap : Nat) (b : Nat → Nat) (hbt : ∀ i, b i < 256) (most sz cl : Nat) (hcl : Hid (cl = 2 ^ sz)) (hs : sz ≤ 8) (hc4 : 4 ≤ cl ∧ cl ≤ 256) (p wd nx : Nat) (vt vw vo : Value) (lc : Int) (er : Int) (t : List (Nat × Nat)) (o : List Nat) (S : List Nat)
    (hn : n ≤ 1000000) (hp : p ≤ 8 * n) (hk : p + wd ≤ 8 * n) (hwd : wd ≤ 12) (c : Nat) (hT : c = takeL b p wd) (hc : ¬ c < cl) (hc0 : c ≠ cl) (hc1 : c ≠ cl + 1) (hlc : lc = -1) (w : World)
    (hb : LzBox g gl most sz wd nx vt lc vw vo false er w) (hm : LzMem g gl A n cap b p vt vw vo t [] o S w) :
    Calls Try.prog 65 #[.pointer (some ⟨g, 0, none⟩)] w fun e w' => PanE 4 e ∧ LzBox g gl most sz wd nx vt lc vw vo false er w' ∧ LzMem g gl A n cap b (p + wd) vt vw vo t [] o S w' ∧ Chg S w w' := by
  have hask : askB (wd : Nat) (8 * n - p) = true := by unfold askB; simp; omega
  obtain ⟨Aw, cw, rfl, q1, q2, q3, q4, q5⟩ := hm.wts
  have hb' : w.heap[g]? = _ := hb
  have c0 := hp_cell (j := 0) hb' rfl
  have c3 := hp_cell (j := 3) hb' rfl
  have c7 := hp_cell (j := 7) hb' rfl
  have hgl := hm.glg
  have HR := Lib.hid hm.rd
  have HM := Lib.hid hm
  have HBX := Lib.hid hb'
  have hglS := hm.s2
  have hgS := hm.s1
  have HT := Lib.hid hT
  clear hT
  subst hlc
  clear hb hb' hm q4 q5
  go_enter Try.func65, Try.ntmps65
  go_wp2_with fail
  go_still_tail 9, (by kernel_rfl)
  change wpList _ _ _ _ _ w.drew
  go_wp2_with fail
  refine (takeL_yes gl A n cap b p _ _ hn hp hbt wd hask _ (HR.out.chg ((Chg.refl [] w).drew) (by simp) (fun _ _ _ => by simp))).mono ?_
  rintro e w1 ⟨rfl, hC, hR⟩
  rw [← HT.out]
  have hb1 := hp_chg (W := w.drew) HBX.out hC (by simp; omega)
  have hm1 := (HM.out.drewN 1).take hC hR
  have hC1 : Chg S w w1 := ((Chg.refl S w).drew).trans (hC.mono (by simpa using hglS))
  have k2 := hp_cell (j := 2) hb1 rfl
  have k3 := hp_cell (j := 3) hb1 rfl
  have k4 := hp_cell (j := 4) hb1 rfl
  have k5 := hp_cell (j := 5) hb1 rfl
  have k6 := hp_cell (j := 6) hb1 rfl
  have k9 := hp_cell (j := 9) hb1 rfl
  have ff := fun j => hp_froz hb1 j
  have HM1 := Lib.hid hm1
  have HB1 := Lib.hid hb1
  have HC1 := Lib.hid hC1
  clear hC hR hb1 hm1 hC1 c0 c3 c7 HR HM HBX
  have n1 : ((c : Int) == (cl : Int)) = false := by rw [beq_eq_false_iff_ne]; omega
  have n2 : (c == cl) = false := by rw [beq_eq_false_iff_ne]; omega
  have n3 : ((c : Int) == (cl : Int) + 1) = false := by rw [beq_eq_false_iff_ne]; omega
  go_wp2_with (first | (go_at_call 69; refine (clear_c g 2 sz cl hs hcl _ k2).mono ?_; rintro e w' ⟨rfl, rfl⟩))
  refine (first_no g gl most sz cl hcl hs p wd nx vt _ vo (-1) false er c hc _ HB1.out).mono ?_
  rintro e w2 ⟨rfl, rfl⟩
  go_wp2
  exact ⟨rfl, rfl, HB1.out, HM1.out, HC1.out⟩
set_option maxRecDepth 100000 in
set_option maxHeartbeats 2000000 in
theorem one_further (g gl : Nat) (A : Option Addr) (n cap : Nat) (b : Nat → Nat) (hbt : ∀ i, b i < 256) (most sz cl : Nat) (hcl : Hid (cl = 2 ^ sz)) (hs : sz ≤ 8) (hc4 : 4 ≤ cl ∧ cl ≤ 256) (p wd nx : Nat) (vt vw vo : Value) (lc : Nat) (er : Int) (t : List (Nat × Nat)) (o : List Nat) (S : List Nat)
    (hn : n ≤ 1000000) (hp : p ≤ 8 * n) (hk : p + wd ≤ 8 * n) (hwd : wd ≤ 12) (c : Nat) (hT : c = takeL b p wd) (hc0 : c ≠ cl) (hc1 : c ≠ cl + 1) (rows : List (List Nat)) (L l0 : List Nat) (hnx : Hid (nx = cl + 2 + rows.length)) (hfull : nx ≤ 4096) (hT2 : TabOk cl rows t) (hl0 : rowOf cl rows lc = some l0) (hl0l : l0.length ≤ 4999) (hl0p : 0 < l0.length) (hc : (c < nx ∧ rowOf cl rows c = some L) ∨ (c = nx ∧ c < 4096 ∧ L = l0 ++ [l0.headD 0])) (hLl : L.length ≤ 5000) (hLp : 0 < L.length) (h256 : ∀ x ∈ L, x < 256) (hlc : lc < 4096) (w : World)
    (hb : LzBox g gl most sz wd nx vt lc vw vo false er w) (hm : LzMem g gl A n cap b p vt vw vo t [] o S w) :
    Calls Try.prog 65 #[.pointer (some ⟨g, 0, none⟩)] w fun e w' => e = .returned (.tuple #[]) ∧ ∃ vt' vw' t' S', (nx < 4096 → t' = t ++ [(lc, L.headD 0)]) ∧ (¬ nx < 4096 → t' = t) ∧ LzBox g gl most sz (growB wd nx) (growN nx) vt' (c : Nat) vw' vo false er w' ∧ LzMem g gl A n cap b (p + wd) vt' vw' vo t' L o S' w' ∧ More S S' w ∧ Chg S w w' := by
  have hask : askB (wd : Nat) (8 * n - p) = true := by unfold askB; simp; omega
  obtain ⟨Aw, cw, rfl, q1, q2, q3, q4, q5⟩ := hm.wts
  have hb' : w.heap[g]? = _ := hb
  have c0 := hp_cell (j := 0) hb' rfl
  have c3 := hp_cell (j := 3) hb' rfl
  have c7 := hp_cell (j := 7) hb' rfl
  have hgl := hm.glg
  have HR := Lib.hid hm.rd
  have HM := Lib.hid hm
  have HBX := Lib.hid hb'
  have hglS := hm.s2
  have hgS := hm.s1
  have HT := Lib.hid hT
  clear hT
  clear hb hb' hm q4 q5
  go_enter Try.func65, Try.ntmps65
  go_wp2_with fail
  go_still_tail 9, (by kernel_rfl)
  change wpList _ _ _ _ _ w.drew
  go_wp2_with fail
  refine (takeL_yes gl A n cap b p _ _ hn hp hbt wd hask _ (HR.out.chg ((Chg.refl [] w).drew) (by simp) (fun _ _ _ => by simp))).mono ?_
  rintro e w1 ⟨rfl, hC, hR⟩
  rw [← HT.out]
  have hb1 := hp_chg (W := w.drew) HBX.out hC (by simp; omega)
  have hm1 := (HM.out.drewN 1).take hC hR
  have hC1 : Chg S w w1 := ((Chg.refl S w).drew).trans (hC.mono (by simpa using hglS))
  have k2 := hp_cell (j := 2) hb1 rfl
  have k3 := hp_cell (j := 3) hb1 rfl
  have k4 := hp_cell (j := 4) hb1 rfl
  have k5 := hp_cell (j := 5) hb1 rfl
  have k6 := hp_cell (j := 6) hb1 rfl
  have k9 := hp_cell (j := 9) hb1 rfl
  have ff := fun j => hp_froz hb1 j
  have HM1 := Lib.hid hm1
  have HB1 := Lib.hid hb1
  have HC1 := Lib.hid hC1
  clear hC hR hb1 hm1 hC1 c0 c3 c7 HR HM HBX
  have n1 : ((c : Int) == (cl : Int)) = false := by rw [beq_eq_false_iff_ne]; omega
  have n2 : (c == cl) = false := by rw [beq_eq_false_iff_ne]; omega
  have n3 : ((c : Int) == (cl : Int) + 1) = false := by rw [beq_eq_false_iff_ne]; omega
  have n4 : ((lc : Int) == -1) = false := by rw [beq_eq_false_iff_ne]; omega
  have HC := Lib.hid hc
  have HL0 := Lib.hid hl0
  clear hc hl0
  go_wp2_with (first | (go_at_call 69; refine (clear_c g 2 sz cl hs hcl _ k2).mono ?_; rintro e w' ⟨rfl, rfl⟩))
  refine (further_yes g gl A n cap b most sz cl hcl hs hc4 (p + wd) wd nx vt _ vo lc false er rows t [] o S c L l0 hnx hfull hwd hT2 HL0.out hl0l hl0p HC.out hLl hLp h256 hlc _ HB1.out HM1.out).mono ?_
  rintro e w2 ⟨rfl, vt', vw', t', S', ht1, ht2, hb2, hm2, hMo, hC2⟩
  have HM2 := Lib.hid hm2
  have HB2 := Lib.hid hb2
  have HC2 := Lib.hid hC2
  have HMo : Hid (More S S' w) := Lib.hid (fun k hk => by
    rcases hMo k hk with h9 | h9
    · exact .inl h9
    · exact .inr (Nat.le_trans HC1.out.size h9))
  have H1 := Lib.hid ht1
  have H2 := Lib.hid ht2
  clear hb2 hm2 hC2 hMo ht1 ht2
  go_wp2
  go_end0
  exact ⟨rfl, vt', vw', t', S', H1.out, H2.out, HB2.out, HM2.out, HMo.out, HC1.out.trans HC2.out⟩
set_option maxRecDepth 100000 in
set_option maxHeartbeats 2000000 in
theorem one_bad2 (g gl : Nat) (A : Option Addr) (n cap : Nat) (b : Nat → Nat) (hbt : ∀ i, b i < 256) (most sz cl : Nat) (hcl : Hid (cl = 2 ^ sz)) (hs : sz ≤ 8) (hc4 : 4 ≤ cl ∧ cl ≤ 256) (p wd nx : Nat) (vt vw vo : Value) (lc : Nat) (er : Int) (t : List (Nat × Nat)) (o : List Nat) (S : List Nat)
    (hn : n ≤ 1000000) (hp : p ≤ 8 * n) (hk : p + wd ≤ 8 * n) (hwd : wd ≤ 12) (c : Nat) (hT : c = takeL b p wd) (hc : nx < c)  (hnx2 : cl + 2 ≤ nx) (w : World)
    (hb : LzBox g gl most sz wd nx vt lc vw vo false er w) (hm : LzMem g gl A n cap b p vt vw vo t [] o S w) :
    Calls Try.prog 65 #[.pointer (some ⟨g, 0, none⟩)] w fun e w' => PanE 4 e ∧ LzBox g gl most sz wd nx vt lc vw vo false er w' ∧ LzMem g gl A n cap b (p + wd) vt vw vo t [] o S w' ∧ Chg S w w' := by
  have hask : askB (wd : Nat) (8 * n - p) = true := by unfold askB; simp; omega
  obtain ⟨Aw, cw, rfl, q1, q2, q3, q4, q5⟩ := hm.wts
  have hb' : w.heap[g]? = _ := hb
  have c0 := hp_cell (j := 0) hb' rfl
  have c3 := hp_cell (j := 3) hb' rfl
  have c7 := hp_cell (j := 7) hb' rfl
  have hgl := hm.glg
  have HR := Lib.hid hm.rd
  have HM := Lib.hid hm
  have HBX := Lib.hid hb'
  have hglS := hm.s2
  have hgS := hm.s1
  have HT := Lib.hid hT
  clear hT
  have hc0 : c ≠ cl := by omega
  have hc1 : c ≠ cl + 1 := by omega
  clear hb hb' hm q4 q5
  go_enter Try.func65, Try.ntmps65
  go_wp2_with fail
  go_still_tail 9, (by kernel_rfl)
  change wpList _ _ _ _ _ w.drew
  go_wp2_with fail
  refine (takeL_yes gl A n cap b p _ _ hn hp hbt wd hask _ (HR.out.chg ((Chg.refl [] w).drew) (by simp) (fun _ _ _ => by simp))).mono ?_
  rintro e w1 ⟨rfl, hC, hR⟩
  rw [← HT.out]
  have hb1 := hp_chg (W := w.drew) HBX.out hC (by simp; omega)
  have hm1 := (HM.out.drewN 1).take hC hR
  have hC1 : Chg S w w1 := ((Chg.refl S w).drew).trans (hC.mono (by simpa using hglS))
  have k2 := hp_cell (j := 2) hb1 rfl
  have k3 := hp_cell (j := 3) hb1 rfl
  have k4 := hp_cell (j := 4) hb1 rfl
  have k5 := hp_cell (j := 5) hb1 rfl
  have k6 := hp_cell (j := 6) hb1 rfl
  have k9 := hp_cell (j := 9) hb1 rfl
  have ff := fun j => hp_froz hb1 j
  have HM1 := Lib.hid hm1
  have HB1 := Lib.hid hb1
  have HC1 := Lib.hid hC1
  clear hC hR hb1 hm1 hC1 c0 c3 c7 HR HM HBX
  have n1 : ((c : Int) == (cl : Int)) = false := by rw [beq_eq_false_iff_ne]; omega
  have n2 : (c == cl) = false := by rw [beq_eq_false_iff_ne]; omega
  have n3 : ((c : Int) == (cl : Int) + 1) = false := by rw [beq_eq_false_iff_ne]; omega
  have n4 : ((lc : Int) == -1) = false := by rw [beq_eq_false_iff_ne]; omega
  go_wp2_with (first | (go_at_call 69; refine (clear_c g 2 sz cl hs hcl _ k2).mono ?_; rintro e w' ⟨rfl, rfl⟩))
  refine (further_no g gl most sz wd nx vt _ vo lc false er c hc _ HB1.out).mono ?_
  rintro e w2 ⟨rfl, rfl⟩
  go_wp2
  exact ⟨rfl, rfl, HB1.out, HM1.out, HC1.out⟩
end Go.Proofs.Ytkjlejkcedemlaa

namespace Go.Proofs.Ytkjlejkcedemlaa
set_option maxRecDepth 100000
set_option linter.unusedVariables false
open Go.ChangeShapes Go.WideShapes Go.ChangeAt Go.RowKit

/-- What the codes come to from where a reader stands. -/
def Gon (b : Nat → Nat) (n cl sz most : Nat) (r : List Nat × Nat) (s : Cz) (wt : List Nat) : Prop :=
  ∃ k, 8 * n - s.p < k ∧ ((most < s.out.length + wt.length ∧ r = ([], 6)) ∨ (s.out.length + wt.length ≤ most ∧ finC b n cl sz most k ⟨s.p, s.wd, s.rows, s.last, s.out ++ wt⟩ = r))
def mz (n : Nat) (s : Cz) (wt : List Nat) (en : Bool) : Nat := (8 * n - s.p) * 5000 + wt.length + (if en = true then 0 else 1)
/-- A reader lies in memory. -/
def LzS (g gl : Nat) (A : Option Addr) (n cap : Nat) (b : Nat → Nat) (most sz cl : Nat) (s : Cz) (wt : List Nat) (en : Bool) (er : Int) (S : List Nat) (w : World) : Prop :=
  (∃ vt vw vo lc t, LzBox g gl most sz s.wd (cl + 2 + s.rows.length) vt lc vw vo en er w ∧ LzMem g gl A n cap b s.p vt vw vo t wt s.out S w ∧ LzPu n cl sz s lc t) ∧ ∀ x ∈ wt, x < 256
def Thrown (e : Ending) (r : List Nat × Nat) : Prop := (StopE e ∧ r = ([], 2)) ∨ (∃ k : Nat, PanE (k : Nat) e ∧ r = ([], k) ∧ 0 < k)
/-- What a step leaves. -/
def OneP (g gl : Nat) (A : Option Addr) (n cap : Nat) (b : Nat → Nat) (most sz cl : Nat) (r : List Nat × Nat) (s : Cz) (wt : List Nat) (S : List Nat) (w : World) (e : Ending) (w' : World) : Prop :=
  ∃ S' s' wt', More S S' w ∧ Chg S w w' ∧ ((e = .returned (.tuple #[]) ∧ ∃ en', LzS g gl A n cap b most sz cl s' wt' en' 0 S' w' ∧ (en' = true → r = (s'.out, 0)) ∧ (en' = false → Gon b n cl sz most r s' wt') ∧
    mz n s' wt' en' < mz n s wt false ∧ s.out.length ≤ s'.out.length ∧ s'.out.length ≤ s.out.length + 1 ∧ s'.out.length ≤ most) ∨ (Thrown e r ∧ LzS g gl A n cap b most sz cl s' wt' false 0 S' w'))
theorem LzS.drewN {g gl : Nat} {A : Option Addr} {n cap : Nat} {b : Nat → Nat} {most sz cl : Nat} {s : Cz} {wt : List Nat} {en : Bool} {er : Int} {S : List Nat} {w : World} (h : LzS g gl A n cap b most sz cl s wt en er S w) (k : Nat) : LzS g gl A n cap b most sz cl s wt en er S (w.drewN k) := by
  obtain ⟨⟨vt, vw, vo, lc, t, hb, hm, hp⟩, h2⟩ := h
  exact ⟨⟨vt, vw, vo, lc, t, hb, hm.drewN k, hp⟩, h2⟩
theorem LzS.below {g gl : Nat} {A : Option Addr} {n cap : Nat} {b : Nat → Nat} {most sz cl : Nat} {s : Cz} {wt : List Nat} {en : Bool} {er : Int} {S : List Nat} {w w' : World} (h : LzS g gl A n cap b most sz cl s wt en er S w) (hb : Below w.heap.size w w') : LzS g gl A n cap b most sz cl s wt en er S w' := by
  obtain ⟨⟨vt, vw, vo, lc, t, hx, hm, hp⟩, h2⟩ := h
  exact ⟨⟨vt, vw, vo, lc, t, hp_below hx hb hm.gs, hm.below hb, hp⟩, h2⟩
section
variable {g gl : Nat} {A : Option Addr} {n cap : Nat} {b : Nat → Nat} {most sz cl : Nat} {s : Cz} {wt : List Nat} {S : List Nat} {w : World} {r : List Nat × Nat}
theorem GoodC.emit (h : GoodC n cl sz s) {x : Nat} (hx : x < 256) : GoodC n cl sz ⟨s.p, s.wd, s.rows, s.last, s.out ++ [x]⟩ :=
  ⟨h.clv, h.sz2, h.sz8, h.wd1, h.wd2, h.p, h.full, h.rows, h.last, h.none, fun v hv => by
    have hv' : v ∈ s.out ++ [x] := hv
    rcases List.mem_append.1 hv' with h1 | h1
    · exact h.out v h1
    · rw [List.mem_singleton.1 h1]; exact hx⟩
theorem takeL_lt12 (p k : Nat) (hk : k ≤ 12) : takeL b p k < 4096 := Nat.lt_of_lt_of_le (takeL_lt b p k) (pow12 hk)
theorem row_le {cl sz : Nat} (h : GoodC n cl sz s) (c : Nat) (hc : c ≠ cl) (hc1 : c ≠ cl + 1) (hb : badC cl s.rows s.last c = false) : 0 < (rowC cl s.rows s.last c).length ∧ (rowC cl s.rows s.last c).length ≤ 4900 ∧ ∀ x ∈ rowC cl s.rows s.last c, x < 256 := by
  have h1 := (rowC_ok h c hc hc1 hb).1
  have h2 := h.full
  have h3 := h1.1
  refine ⟨?_, by have := h1.2.1; omega, h1.2.2⟩
  cases hh : rowC cl s.rows s.last c with
  | nil => exact absurd hh h3
  | cons a q => simp
theorem mz_step {p q l m : Nat} (h1 : p + 3 ≤ q) (h2 : q ≤ 8 * n) (hl : l ≤ 4900) (x : Nat) (hx : x ≤ 1) : (8 * n - q) * 5000 + l + x < (8 * n - p) * 5000 + m + 1 := by
  have h3 : 8 * n - q + 3 ≤ 8 * n - p := by omega
  have h4 := Nat.mul_le_mul_right 5000 h3
  omega
set_option maxHeartbeats 1000000 in
theorem one_any (hbt : ∀ i, b i < 256) (hn : n ≤ 1000000) (hmost : most ≤ 1000000) (hom : s.out.length ≤ most) (hg : Gon b n cl sz most r s wt) (h : LzS g gl A n cap b most sz cl s wt false 0 S w) :
    Calls Try.prog 65 #[.pointer (some ⟨g, 0, none⟩)] w (OneP g gl A n cap b most sz cl r s wt S w) := by
  obtain ⟨⟨vt, vw, vo, lc, t, hb, hm, hp⟩, h256⟩ := h
  have hgd := hp.good
  have hclb := cl_le hgd
  have hsz := hgd.sz8
  have hcl := Lib.hid hgd.clv
  have hwd1 := hgd.wd1
  have hwd2 := hgd.wd2
  have hpp := hgd.p
  obtain ⟨k, hk, hgo⟩ := hg
  cases wt with
  | cons x wr =>
    by_cases ho : s.out.length < most
    · refine (emit_yes g gl A n cap b most sz s.p s.wd _ vt vw vo lc 0 t x wr s.out S hmost ho w hb hm).mono ?_
      rintro e w' ⟨rfl, vw', vo', S', hb', hm', hMo, hC⟩
      refine ⟨S', ⟨s.p, s.wd, s.rows, s.last, s.out ++ [x]⟩, wr, hMo, hC, .inl ⟨rfl, false, ⟨⟨vt, vw', vo', lc, t, hb', hm', ⟨hgd.emit (h256 x (by simp)), hp.tb, hp.l0, hp.l1⟩⟩, fun y hy => h256 y (by simp [hy])⟩, (fun h => by cases h), fun _ => ⟨k, hk, ?_⟩, ?_, by simp, by simp, by simp; omega⟩⟩
      · rcases hgo with ⟨h1, h2⟩ | ⟨h1, h2⟩
        · refine .inl ⟨?_, h2⟩
          simp at h1 ⊢
          omega
        · refine .inr ⟨?_, ?_⟩
          · simp at h1 ⊢
            omega
          · rw [← h2]
            simp
      · simp [mz]
    · refine (emit_no g gl A n cap b most sz s.p s.wd _ vt vw vo lc 0 t (x :: wr) s.out S hmost (by omega) (by simp) w hb hm).mono ?_
      rintro e w' ⟨hPe, m, rfl⟩
      refine ⟨S, s, x :: wr, More.refl _ _, (Chg.refl S w).drewN m, .inr ⟨.inr ⟨6, hPe, ?_, by omega⟩, LzS.drewN ⟨⟨vt, vw, vo, lc, t, hb, hm, hp⟩, h256⟩ m⟩⟩
      rcases hgo with ⟨h1, h2⟩ | ⟨h1, h2⟩
      · exact h2
      · simp at h1
        omega
  | nil =>
    have hfin : finC b n cl sz most k s = r := by
      rcases hgo with ⟨h1, h2⟩ | ⟨h1, h2⟩
      · simp at h1
        omega
      · simpa using h2
    clear hgo
    obtain ⟨k, rfl⟩ : ∃ j, k = j + 1 := ⟨k - 1, by omega⟩
    rw [finC] at hfin
    by_cases he : 8 * n < s.p + s.wd
    · rw [if_pos he] at hfin
      refine (one_end g gl A n cap b most sz s.p s.wd _ vt vw vo lc 0 t s.out S hn hpp he hwd2 w hb hm).mono ?_
      rintro e w' ⟨hSe, m, rfl⟩
      exact ⟨S, s, [], More.refl _ _, (Chg.refl S w).drewN m, .inr ⟨.inl ⟨hSe, hfin.symm⟩, LzS.drewN ⟨⟨vt, vw, vo, lc, t, hb, hm, hp⟩, h256⟩ m⟩⟩
    · rw [if_neg he] at hfin
      have hle : s.p + s.wd ≤ 8 * n := by omega
      obtain ⟨c, hc⟩ : ∃ c, c = takeL b s.p s.wd := ⟨_, rfl⟩
      have hc4 : c < 4096 := by rw [hc]; exact takeL_lt12 _ _ hwd2
      rw [← hc] at hfin
      by_cases e1 : c = cl
      · rw [if_pos e1] at hfin
        refine (one_reset g gl A n cap b hbt most sz cl hcl hsz hclb s.p s.wd _ vt vw vo lc 0 t s.out S hn hpp hle hwd2 c hc e1 w hb hm).mono ?_
        rintro e w' ⟨rfl, vw', hb', hm', hC⟩
        refine ⟨S, s.reset sz, [], More.refl _ _, hC, .inl ⟨rfl, false, ⟨⟨_, vw', vo, _, [], hb', hm', hp.reset hle⟩, by simp⟩, (fun h => by cases h), fun _ => ⟨k, ?_, .inr ⟨?_, ?_⟩⟩, ?_, Nat.le_refl _, Nat.le_succ _, hom⟩⟩
        · show 8 * n - (s.p + s.wd) < k
          omega
        · simpa [Cz.reset] using hom
        · rw [← hfin]
          simp [Cz.reset]
        · exact mz_step (p := s.p) (by show s.p + 3 ≤ s.p + s.wd; omega) hle (by simp) _ (by simp)
      · rw [if_neg e1] at hfin
        by_cases e2 : c = cl + 1
        · rw [if_pos e2] at hfin
          refine (one_fin g gl A n cap b hbt most sz cl hcl hsz hclb s.p s.wd _ vt vw vo lc 0 t s.out S hn hpp hle hwd2 c hc e2 w hb hm).mono ?_
          rintro e w' ⟨rfl, hb', hm', hC⟩
          exact ⟨S, s.on, [], More.refl _ _, hC, .inl ⟨rfl, true, ⟨⟨vt, vw, vo, lc, t, hb', hm', hp.on hle⟩, by simp⟩, fun _ => hfin.symm, fun h => by (cases h), mz_step (p := s.p) (by show s.p + 3 ≤ s.p + s.wd; omega) hle (by simp) _ (by simp), Nat.le_refl _, Nat.le_succ _, hom⟩⟩
        · rw [if_neg e2] at hfin
          by_cases e3 : badC cl s.rows s.last c = true
          · rw [if_pos e3] at hfin
            have e3' := e3
            unfold badC at e3'
            cases hl : s.last with
            | none =>
              rw [hl] at e3'
              simp at e3'
              refine (one_bad1 g gl A n cap b hbt most sz cl hcl hsz hclb s.p s.wd _ vt vw vo lc 0 t s.out S hn hpp hle hwd2 c hc (by omega) e1 e2 (hp.l0 hl) w hb hm).mono ?_
              rintro e w' ⟨hPe, hb', hm', hC⟩
              exact ⟨S, s.on, [], More.refl _ _, hC, .inr ⟨.inr ⟨4, hPe, hfin.symm, by omega⟩, ⟨⟨vt, vw, vo, lc, t, hb', hm', hp.on hle⟩, by simp⟩⟩⟩
            | some l0 =>
              rw [hl] at e3'
              simp at e3'
              obtain ⟨lk, hlk, _, _⟩ := hp.l1 l0 hl
              subst hlk
              refine (one_bad2 g gl A n cap b hbt most sz cl hcl hsz hclb s.p s.wd _ vt vw vo lk 0 t s.out S hn hpp hle hwd2 c hc (by omega) (by omega) w hb hm).mono ?_
              rintro e w' ⟨hPe, hb', hm', hC⟩
              exact ⟨S, s.on, [], More.refl _ _, hC, .inr ⟨.inr ⟨4, hPe, hfin.symm, by omega⟩, ⟨⟨vt, vw, vo, lk, t, hb', hm', hp.on hle⟩, by simp⟩⟩⟩
          · have e3' : badC cl s.rows s.last c = false := by simpa using e3
            rw [if_neg e3] at hfin
            have hrl := row_le hgd c e1 e2 e3'
            have hgn : Gon b n cl sz most r (s.stepQ cl (rowC cl s.rows s.last c)) (rowC cl s.rows s.last c) := by
              refine ⟨k, ?_, ?_⟩
              · show 8 * n - (s.p + s.wd) < k
                omega
              · by_cases hm6 : most < s.out.length + (rowC cl s.rows s.last c).length
                · rw [if_pos hm6] at hfin
                  exact .inl ⟨hm6, hfin.symm⟩
                · rw [if_neg hm6] at hfin
                  exact .inr ⟨by show s.out.length + _ ≤ most; omega, hfin⟩
            have hmz : mz n (s.stepQ cl (rowC cl s.rows s.last c)) (rowC cl s.rows s.last c) false < mz n s [] false := mz_step (p := s.p) (by show s.p + 3 ≤ s.p + s.wd; omega) hle hrl.2.1 _ (by simp)
            cases hl : s.last with
            | none =>
              have hlt : c < cl := by
                unfold badC at e3'
                rw [hl] at e3'
                simpa using e3'
              have hr : rowC cl s.rows s.last c = [c] := by unfold rowC; rw [if_pos hlt]
              rw [hr] at hgn hmz
              refine (one_first g gl A n cap b hbt most sz cl hcl hsz hclb s.p s.wd _ vt vw vo lc 0 t s.out S hn hpp hle hwd2 c hc hlt (hp.l0 hl) w hb hm).mono ?_
              rintro e w' ⟨rfl, vw', hb', hm', hC⟩
              have hrows : rowsC cl s.rows s.last [c] = s.rows := by unfold rowsC; rw [hl, if_neg (by simp)]
              have hwide : wideC cl s.wd s.rows s.last = s.wd := by unfold wideC; rw [hl, if_neg (by simp)]
              refine ⟨S, s.stepQ cl [c], [c], More.refl _ _, hC, .inl ⟨rfl, false, ⟨⟨vt, vw', vo, _, t, ?_, hm', hp.first hle c hlt hl⟩, by simp; omega⟩, (fun h => by cases h), fun _ => hgn, hmz, Nat.le_refl _, Nat.le_succ _, hom⟩⟩
              show LzBox g gl most sz (wideC cl s.wd s.rows s.last) (cl + 2 + (rowsC cl s.rows s.last [c]).length) vt (c : Nat) vw' vo false 0 w'
              rw [hrows, hwide]
              exact hb'
            | some l0 =>
              obtain ⟨lk, hlk, hlk2, hlk3⟩ := hp.l1 l0 hl
              subst hlk
              have hl0 := hgd.last l0 hl
              have hfull := hgd.full
              refine (one_further g gl A n cap b hbt most sz cl hcl hsz hclb s.p s.wd (cl + 2 + s.rows.length) vt vw vo lk 0 t s.out S hn hpp hle hwd2 c hc e1 e2 s.rows (rowC cl s.rows s.last c) l0 (Lib.hid rfl) hfull hp.tb hlk3 (by have := hl0.2.1; omega) (by
                cases l0 with
                | nil => exact absurd rfl hl0.1
                | cons a q => simp) (further_pure hp c hc4 e1 e2 e3' l0 hl) (by omega) hrl.1 hrl.2.2 (by omega) w hb hm).mono ?_
              rintro e w' ⟨rfl, vt', vw', t', S', ht1, ht2, hb', hm', hMo, hC⟩
              refine ⟨S', s.stepQ cl (rowC cl s.rows s.last c), rowC cl s.rows s.last c, hMo, hC, .inl ⟨rfl, false, ⟨⟨vt', vw', vo, _, t', ?_, hm', hp.further hle c hc4 e1 e2 e3' l0 hl lk rfl ht1 ht2⟩, hrl.2.2⟩, (fun h => by cases h), fun _ => hgn, hmz, Nat.le_refl _, Nat.le_succ _, hom⟩⟩
              show LzBox g gl most sz (wideC cl s.wd s.rows s.last) (cl + 2 + (rowsC cl s.rows s.last (rowC cl s.rows s.last c)).length) vt' (c : Nat) vw' vo false 0 w'
              rw [growB_eq cl s.wd s.rows l0, growN_eq cl s.rows l0 (rowC cl s.rows s.last c), ← hl] at hb'
              exact hb'
end
end Go.Proofs.Ytkjlejkcedemlaa

namespace Go.Proofs.Ytkjlejkcedemlaa
set_option maxRecDepth 100000
set_option linter.unusedVariables false
open Go.ChangeShapes Go.WideShapes Go.ChangeAt Go.RowKit

theorem ta1 (v : Value) (w : World) : (Instr.typeAssert (.iface 27 v) 20 120 true).run Try.prog w = .ok (.tuple #[.agg #[], .bool false]) w := by kernel_rfl
theorem ta2 (v : Value) (w : World) : (Instr.typeAssert (.iface 27 v) 20 27 true).run Try.prog w = .ok (.tuple #[v, .bool true]) w := by kernel_rfl
theorem ta3 (v : Value) (w : World) : (Instr.typeAssert (.iface 120 v) 20 120 true).run Try.prog w = .ok (.tuple #[v, .bool true]) w := by kernel_rfl
set_option maxRecDepth 100000 in
theorem tcatch_idle (p : Addr) (w : World) :
    CallsD Try.prog 70 #[.pointer (some p)] .returning w fun e u' w' => e = .returned (.tuple #[]) ∧ u' = .returning ∧ w' = w := by
  refine callsD_of_wpS Try.func70 rfl fun c₀ cs hu => ?_
  apply wpS_seq
  apply wpS_region
  simp [wpOpsS, go_sem, recoverD, hu, Try.ntmps70, Exit.thenS]
  refine wpS_of_wp ?_
  simp only [Array.replicate, List.replicate]
  go_wp2
  cases c₀
  simp_all [bodyPostS, results, Try.results70]
set_option maxRecDepth 100000 in
theorem tcatch_err (p : Addr) (x : Value) (k : Int) (older : List PanicEntry) (w : World) (hc : w.cell? p = some x) (hz : w.frozen? p = false) :
    CallsD Try.prog 70 #[.pointer (some p)] (.panicking ({ v := .iface 27 (.int .i64 k), recovered := false } :: older)) w fun e u' w' =>
      e = .returned (.tuple #[]) ∧ u' = .panicking ({ v := .iface 27 (.int .i64 k), recovered := true } :: older) ∧ w' = w.setCell p (.int .i64 k) := by
  have t1 := ta1
  have t2 := ta2
  refine callsD_of_wpS Try.func70 rfl fun c₀ cs hu => ?_
  apply wpS_seq
  apply wpS_region
  simp [wpOpsS, go_sem, recoverD, hu, Try.ntmps70, Exit.thenS]
  refine wpS_of_wp ?_
  simp only [Array.replicate, List.replicate]
  go_wp2
  cases c₀
  simp_all [bodyPostS, results, Try.results70]
set_option maxRecDepth 100000 in
theorem tcatch_end (B : Nat) (x : Value) (older : List PanicEntry) (w : World) (hc : w.cell? ⟨B, 0, none⟩ = some x) (hz : ∀ j, w.frozen? ⟨B, j, none⟩ = false) :
    CallsD Try.prog 70 #[.pointer (some ⟨B, 0, none⟩)] (.panicking ({ v := .iface 120 (.agg #[]), recovered := false } :: older)) w fun e u' w' =>
      e = .returned (.tuple #[]) ∧ u' = .panicking ({ v := .iface 120 (.agg #[]), recovered := true } :: older) ∧ w' = (w.setCell ⟨B, 0, none⟩ (.int .i64 2)).alloc (.cells #[] 120) := by
  have t1 := ta3
  have hB := lt_of_cell hc
  simp only at hB
  refine callsD_of_wpS Try.func70 rfl fun c₀ cs hu => ?_
  apply wpS_seq
  apply wpS_region
  simp [wpOpsS, go_sem, recoverD, hu, Try.ntmps70, Exit.thenS]
  refine wpS_of_wp ?_
  simp only [Array.replicate, List.replicate]
  go_wp2
  cases c₀
  simp_all [bodyPostS, results, Try.results70]
/-- k's body is entered with what it captured. -/
def EntersL (k : FuncId) (caps : Array Value) : Prop := ∀ W : World, (callFunc k caps).run Try.prog W = .ok (.enter k caps) W
set_option maxRecDepth 100000 in
set_option maxHeartbeats 1000000 in
/-- What a closure broke with, if it did: R: what it leaves where it did not, Q: where it did. -/
theorem tried_any (r : List Nat × Nat) (k : FuncId) (caps : Array Value) (hent : EntersL k caps) (w : World) (R Q : World → Prop)
    (hk : Calls Try.prog k caps (w.alloc (.cells #[.int .i64 0] 27)) fun e w' => w'.heap[w.heap.size]? = some (.cells #[.int .i64 0] 27 (0, 0)) ∧ ((e = .returned (.tuple #[]) ∧ R w') ∨ (Thrown e r ∧ Q w'))) :
    Calls Try.prog 63 #[.func (.func k) #[] caps] w fun e w' => ∃ (q : Nat) (w1 : World), e = .returned (.int .i64 (q : Nat)) ∧ w1.heap[w.heap.size]? = some (.cells #[.int .i64 0] 27 (0, 0)) ∧
      (w' = w1.setCell ⟨w.heap.size, 0, none⟩ (.int .i64 (q : Nat)) ∨ w' = (w1.setCell ⟨w.heap.size, 0, none⟩ (.int .i64 (q : Nat))).alloc (.cells #[] 120)) ∧ ((q = 0 ∧ R w1) ∨ (0 < q ∧ r = ([], q) ∧ Q w1)) := by
  have hmf : ∀ (fn : Fn) (first cap : Array Value) (w : World), (Instr.makeFunc fn first cap).run Try.prog w = .ok (.func fn first cap) w := fun _ _ _ _ => rfl
  go_enter_defers Try.func63, Try.ntmps63
  go_wp2_with fail
  rw [hent, Oper.upon_enter]
  refine hk.mono ?_
  rintro e w1 ⟨hb, hd⟩
  have h0 : w1.cell? ⟨w.heap.size, 0, none⟩ = some (.int .i64 0) := by simp [World.cell?, hb]
  have hf : ∀ j, w1.frozen? ⟨w.heap.size, j, none⟩ = false := fun j => by simp [World.frozen?, hb]
  have hl : w.heap.size < w1.heap.size := (Array.getElem?_eq_some_iff.1 hb).1
  have he := (Array.getElem?_eq_some_iff.1 hb).2
  have h1 : ∀ q : Int, (w1.setCell ⟨w.heap.size, 0, none⟩ (.int .i64 q)).cell? ⟨w.heap.size, 0, none⟩ = some (.int .i64 q) := fun q => by simp [World.cell?, World.setCell, hl, he, Array.getElem_modify]
  have h2 : ((w1.setCell ⟨w.heap.size, 0, none⟩ (.int .i64 2)).alloc (.cells #[] 120)).cell? ⟨w.heap.size, 0, none⟩ = some (.int .i64 2) := by
    rw [World.cell?_alloc_lt _ _ _ (by simp [World.setCell]; exact hl)]
    exact h1 2
  have HB := Lib.hid hb
  have HH1 := Lib.hid h1
  have HH2 := Lib.hid h2
  clear hb he h1 h2 hk
  rcases hd with ⟨rfl, hR⟩ | ⟨⟨rfl, rfl⟩ | ⟨q, rfl, rfl, hq⟩, hQ⟩
  · go_wp2
    refine leaves_cons (f := 70) (args := #[.pointer (some ⟨w.heap.size, 0, none⟩)]) (by simp) (by simp [go_sem]) ?_
    refine (tcatch_idle ⟨w.heap.size, 0, none⟩ _).mono ?_
    rintro e u' w'' ⟨rfl, rfl, rfl⟩
    refine ⟨.int .i64 0, ?_, ?_⟩
    · simp [results, Try.results63, go_sem, HH1.out 0]
    · exact ⟨0, w1, rfl, HB.out, .inl rfl, .inl ⟨rfl, hR⟩⟩
  · go_wp2
    refine leaves_cons (f := 70) (args := #[.pointer (some ⟨w.heap.size, 0, none⟩)]) (by simp) (by simp [go_sem]) ?_
    refine (tcatch_end w.heap.size _ [] _ h0 hf).mono ?_
    rintro e u' w'' ⟨rfl, rfl, rfl⟩
    simp [Leaves, settle, results, Try.results63, go_sem, HH2.out]
    exact ⟨2, rfl, w1, HB.out, .inr rfl, .inr ⟨by omega, rfl, hQ⟩⟩
  · go_wp2
    refine leaves_cons (f := 70) (args := #[.pointer (some ⟨w.heap.size, 0, none⟩)]) (by simp) (by simp [go_sem]) ?_
    refine (tcatch_err ⟨w.heap.size, 0, none⟩ _ q [] _ h0 (hf 0)).mono ?_
    rintro e u' w'' ⟨rfl, rfl, rfl⟩
    simp [Leaves, settle, results, Try.results63, go_sem, HH1.out]
    exact ⟨q, rfl, w1, HB.out, .inl rfl, .inr ⟨hq, rfl, hQ⟩⟩
end Go.Proofs.Ytkjlejkcedemlaa

namespace Go.Proofs.Ytkjlejkcedemlaa
set_option maxRecDepth 100000
set_option linter.unusedVariables false
open Go.ChangeShapes Go.WideShapes Go.ChangeAt Go.RowKit

/-- Step's three letters, boxed. -/
structure StB (g BR BW BN was : Nat) (N : Int) (S : List Nat) (w : World) : Prop where
  xr : w.heap[BR]? = some (.cells #[.pointer (some ⟨g, 0, none⟩)] 99 (0, 0))
  xw : w.heap[BW]? = some (.cells #[.int .i64 (was : Nat)] 3 (0, 0))
  xn : w.heap[BN]? = some (.cells #[.int .i64 N] 3 (0, 0))
  out : BR ∉ S ∧ BW ∉ S ∧ BN ∉ S
theorem StB.chg {g BR BW BN was : Nat} {N : Int} {S S' : List Nat} {w w' : World} (h : StB g BR BW BN was N S w) (hc : Chg S w w') (hm : More S S' w) : StB g BR BW BN was N S' w' :=
  ⟨hp_chg h.xr hc h.out.1, hp_chg h.xw hc h.out.2.1, hp_chg h.xn hc h.out.2.2, fun hk => by rcases hm _ hk with h1 | h1; exact h.out.1 h1; have := lt_heap h.xr; omega, fun hk => by rcases hm _ hk with h1 | h1; exact h.out.2.1 h1; have := lt_heap h.xw; omega, fun hk => by rcases hm _ hk with h1 | h1; exact h.out.2.2 h1; have := lt_heap h.xn; omega⟩
/-- What a round of Step has. -/
def StR (g gl : Nat) (A : Option Addr) (n cap : Nat) (b : Nat → Nat) (most sz cl : Nat) (r : List Nat × Nat) (BR BW BN was : Nat) (N : Int) (S0 : List Nat) (w0 : World) (k0 : Nat) (k : Nat) (wr : World) : Prop :=
  ∃ S s wt en, k = mz n s wt en ∧ (k < k0 ∨ (k = k0 ∧ en = false ∧ s.out.length = was)) ∧ StB g BR BW BN was N S wr ∧ LzS g gl A n cap b most sz cl s wt en 0 S wr ∧ Chg S0 w0 wr ∧ More S0 S w0 ∧ (en = true → r = (s.out, 0)) ∧ (en = false → Gon b n cl sz most r s wt) ∧ was ≤ s.out.length ∧ s.out.length ≤ most
/-- What Step's closure leaves where nothing broke. -/
def StY (g gl : Nat) (A : Option Addr) (n cap : Nat) (b : Nat → Nat) (most sz cl : Nat) (r : List Nat × Nat) (was : Nat) (N : Int) (S0 : List Nat) (w0 : World) (k0 : Nat) (w : World) : Prop :=
  ∃ S s wt en, mz n s wt en < k0 ∧ LzS g gl A n cap b most sz cl s wt en 0 S w ∧ Chg S0 w0 w ∧ More S0 S w0 ∧ (en = true → r = (s.out, 0)) ∧ (en = false → Gon b n cl sz most r s wt ∧ N ≤ (s.out.length : Int) - was) ∧ was ≤ s.out.length ∧ s.out.length ≤ most
/-- What it leaves where something broke. -/
def StN (g gl : Nat) (A : Option Addr) (n cap : Nat) (b : Nat → Nat) (most sz cl : Nat) (S0 : List Nat) (w0 : World) (w : World) : Prop :=
  ∃ S s wt, LzS g gl A n cap b most sz cl s wt false 0 S w ∧ Chg S0 w0 w ∧ More S0 S w0
def StP (g gl : Nat) (A : Option Addr) (n cap : Nat) (b : Nat → Nat) (most sz cl : Nat) (r : List Nat × Nat) (was : Nat) (N : Int) (S0 : List Nat) (w0 : World) (k0 : Nat) (e : Ending) (w : World) : Prop :=
  (e = .returned (.tuple #[]) ∧ StY g gl A n cap b most sz cl r was N S0 w0 k0 w) ∨ (Thrown e r ∧ StN g gl A n cap b most sz cl S0 w0 w)
section
variable (g gl : Nat) (A : Option Addr) (n cap : Nat) (b : Nat → Nat) (most sz cl : Nat) (r : List Nat × Nat)
set_option maxRecDepth 100000 in
set_option maxHeartbeats 2000000 in
theorem step_loop (hbt : ∀ i, b i < 256) (hn : n ≤ 1000000) (hmost : most ≤ 1000000) (BR BW BN : Nat) (N : Int) (hN : 1 ≤ N) (s : Cz) (wt : List Nat) (S : List Nat) (hom : s.out.length ≤ most) (hg : Gon b n cl sz most r s wt) (w : World) (hB : StB g BR BW BN s.out.length N S w) (h : LzS g gl A n cap b most sz cl s wt false 0 S w) :
    Calls Try.prog 64 #[.pointer (some ⟨BR, 0, none⟩), .pointer (some ⟨BW, 0, none⟩), .pointer (some ⟨BN, 0, none⟩)] w (StP g gl A n cap b most sz cl r s.out.length N S w (mz n s wt false)) := by
  obtain ⟨was, hwas⟩ : ∃ was, was = s.out.length := ⟨_, rfl⟩
  rw [← hwas] at hB ⊢
  have h0 : StR g gl A n cap b most sz cl r BR BW BN was N S w (mz n s wt false) (mz n s wt false) w := ⟨S, s, wt, false, rfl, .inr ⟨rfl, rfl, hwas.symm⟩, hB, h, Chg.refl _ _, More.refl _ _, (fun h => by cases h), fun _ => hg, by omega, hom⟩
  obtain ⟨k0, hk0⟩ : ∃ k0, k0 = mz n s wt false := ⟨_, rfl⟩
  rw [← hk0] at h0 ⊢
  have H0 := Lib.hid h0
  clear h0 hk0 hg h hB hwas hom
  go_enter Try.func64, Try.ntmps64
  go_wp2_with fail
  go_loopg [] k0 (fun k wr => StR g gl A n cap b most sz cl r BR BW BN was N S w k0 k wr)
  case atStart => exact H0.out
  case round =>
    obtain ⟨S1, s1, wt1, en, hk, hk2, hB, hL, hC, hM, he1, he2, hw1, hw2⟩ := hrel
    have hL2 := hL
    obtain ⟨⟨vt, vw, vo, lc, t, hb, hm, hp⟩, h256⟩ := hL2
    obtain ⟨_, Ao, co, rfl, q1, q2, _⟩ := Sl.of_own hm.out
    have hb' : wr.heap[g]? = _ := hb
    have c8 := hp_cell (j := 8) hb' rfl
    have c9 := hp_cell (j := 9) hb' rfl
    have cr := hp_cell (j := 0) hB.xr rfl
    have cw := hp_cell (j := 0) hB.xw rfl
    have cn := hp_cell (j := 0) hB.xn rfl
    obtain ⟨P, hP⟩ : ∃ P, P = s1.out.length := ⟨_, rfl⟩
    rw [← hP] at c8 hw1 hw2 q1
    have hP2 : (P : Int) - (was : Int) = (P : Int) - (was : Int) := rfl
    have HP := Lib.hid hP
    have HB := Lib.hid hB
    have HL := Lib.hid hL
    have HC := Lib.hid hC
    have HM := Lib.hid hM
    have HE1 := Lib.hid he1
    have HE2 := Lib.hid he2
    have HK := Lib.hid hk
    have HK2 := Lib.hid hk2
    clear hb hb' hm hp h256 hB hL hC hM he1 he2 hk hk2 hP hP2
    cases en with
    | true =>
      go_wp2_with fail
      go_quiet (fail)
      go_wp2_with fail
      go_end0
      refine .inl ⟨rfl, S1, s1, wt1, true, ?_, HL.out.drewN _, HC.out.drewN _, HM.out, (fun _ => HE1.out trivial), (fun h => by cases h), ?_, ?_⟩
      · rcases HK2.out with h | ⟨_, h, _⟩
        · rw [← HK.out]; exact h
        · cases h
      · rw [← HP.out]; exact hw1
      · rw [← HP.out]; exact hw2
    | false =>
      by_cases hlt : (P : Int) - was < N
      · have d1 : decide ((P : Int) - (was : Int) < N) = true := by simp; omega
        go_wp2_with fail
        go_quiet (fail)
        go_wp2_with fail
        refine (one_any hbt hn hmost (by rw [← HP.out]; exact hw2) (HE2.out trivial) (HL.out.drewN _)).mono ?_
        rintro e w2 ⟨S2, s2, wt2, hMo, hC2, hd⟩
        have hC3 : Chg S w w2 := ((HC.out.drewN _).trans2 hC2 HM.out)
        have hM3 : More S S2 w := HM.out.trans hMo HC.out.size
        have hB3 : StB g BR BW BN was N S2 w2 := (HB.out.chg ((Chg.refl S1 wr).drewN _) (More.refl _ _)).chg hC2 hMo
        have HC3 := Lib.hid hC3
        have HM3 := Lib.hid hM3
        have HB3 := Lib.hid hB3
        clear hC3 hM3 hB3 hC2 hMo c8 c9 cr cw cn
        rcases hd with ⟨rfl, en', hL', h1, h2, hmz, ho1, ho2, ho3⟩ | ⟨⟨rfl, hr⟩ | ⟨q, rfl, hr, hq⟩, hL'⟩
        · have HL' := Lib.hid hL'
          have H1 := Lib.hid h1
          have H2 := Lib.hid h2
          have HZ := Lib.hid hmz
          have HO := Lib.hid ho1
          have HO3 := Lib.hid ho3
          clear hL' h1 h2 hmz ho1 ho2 ho3
          go_wp2_with fail
          go_roundg (mz n s2 wt2 en')
          case measure => rw [HK.out]; exact HZ.out
          case rel =>
            refine ⟨S2, s2, wt2, en', rfl, .inl ?_, HB3.out, HL'.out, HC3.out, HM3.out, H1.out, H2.out, ?_, HO3.out⟩
            · have h9 := HZ.out
              rw [← HK.out] at h9
              rcases HK2.out with h | ⟨h, _⟩ <;> omega
            · have h9 := HO.out
              rw [← HP.out] at h9
              omega
        · have HL' := Lib.hid hL'
          have HR := Lib.hid hr
          clear hL' hr
          go_wp2_with fail
          exact ⟨rfl, .inr ⟨.inl ⟨rfl, HR.out⟩, S2, s2, wt2, HL'.out, HC3.out, HM3.out⟩⟩
        · have HL' := Lib.hid hL'
          have HR := Lib.hid hr
          clear hL' hr
          go_wp2_with fail
          exact ⟨rfl, .inr ⟨.inr ⟨q, rfl, HR.out, hq⟩, S2, s2, wt2, HL'.out, HC3.out, HM3.out⟩⟩
      · have d1 : decide ((P : Int) - (was : Int) < N) = false := by simp; omega
        go_wp2_with fail
        go_quiet (fail)
        go_wp2_with fail
        go_end0
        refine .inl ⟨rfl, S1, s1, wt1, false, ?_, HL.out.drewN _, HC.out.drewN _, HM.out, HE1.out, (fun _ => ⟨HE2.out trivial, ?_⟩), ?_, ?_⟩
        · rcases HK2.out with h | ⟨_, _, h⟩
          · rw [← HK.out]; exact h
          · have := HP.out
            omega
        · rw [← HP.out]; omega
        · rw [← HP.out]; exact hw1
        · rw [← HP.out]; exact hw2
end
end Go.Proofs.Ytkjlejkcedemlaa
