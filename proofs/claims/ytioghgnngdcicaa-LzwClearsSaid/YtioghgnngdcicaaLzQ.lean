/- A reader of GIF's codes: one step, whatever stands there. -/
import Derived.Test.YtioghgnngdcicaaLzO
namespace Go.Proofs.Ytioghgnngdcicaa
set_option linter.unusedVariables false
open Go.ChangeShapes Go.WideShapes Go.ChangeAt Go.RowKit

/-- A reader's end, thrown. -/
def StopE (e : Ending) : Prop := e = .panicked [{ v := .iface 87 (.agg #[]), recovered := false }]
set_option maxRecDepth 100000 in
set_option maxHeartbeats 1000000 in
theorem ask_end (T : TypeId) (g : Nat) (A : Option Addr) (n cap : Nat) (b : Nat → Nat) (p : Nat) (vo : Value) (fr : Int) (hn : n ≤ 1000000) (hp : p ≤ 8 * n) (k : Nat) (hk : 8 * n < p + k) (hk24 : k ≤ 24) (w : World) (h : Rd T g A n cap b p vo fr w) :
    Calls Try.prog 50 #[.pointer (some ⟨g, 0, none⟩), .int .i64 (k : Nat)] w fun e w' => StopE e ∧ ∃ m, w' = w.drewN m := by
  go_enter Try.func50, Try.ntmps50
  have d1 : decide ((k : Int) < 0) = false := by simp
  have d2 : decide (24 < (k : Int)) = false := by simp; omega
  go_wp2_with fail
  refine (left_row T g A n cap b p vo fr hn hp _ h).mono ?_
  rintro e w1 ⟨rfl, m, rfl⟩
  have d3 : decide (8 * n - p < k) = true := by simp; omega
  go_wp2
  exact ⟨rfl, rfl, _, rfl⟩
set_option maxRecDepth 100000 in
set_option maxHeartbeats 1000000 in
theorem takeL_end (g : Nat) (A : Option Addr) (n cap : Nat) (b : Nat → Nat) (p : Nat) (vo : Value) (fr : Int) (hn : n ≤ 1000000) (hp : p ≤ 8 * n) (k : Nat) (hk : 8 * n < p + k) (hk24 : k ≤ 24) (w : World) (h : Rd 76 g A n cap b p vo fr w) :
    Calls Try.prog 45 #[.pointer (some ⟨g, 0, none⟩), .int .i64 (k : Nat)] w fun e w' => StopE e ∧ ∃ m, w' = w.drewN m := by
  have c0 := hp_cell (j := 0) h.box rfl
  go_enter Try.func45, Try.ntmps45
  go_wp2_with fail
  refine (ask_end _ g A n cap b p vo fr hn hp k hk hk24 _ h).mono ?_
  rintro e w1 ⟨rfl, m, rfl⟩
  go_wp2
  exact ⟨rfl, rfl, m, rfl⟩
set_option maxRecDepth 100000 in
set_option maxHeartbeats 2000000 in
theorem emit_no (g gl : Nat) (A : Option Addr) (n cap : Nat) (b : Nat → Nat) (most sz : Nat) (p wd nx : Nat) (vt vw vo : Value) (lc : Int) (er : Int) (t : List (Nat × Nat)) (wt o : List Nat) (S : List Nat) (hmost : most ≤ 1000000) (ho : most ≤ o.length) (hwt : 0 < wt.length) (w : World)
    (hb : LzBox g gl most sz wd nx vt lc vw vo false er w) (hm : LzMem g gl A n cap b p vt vw vo t wt o S w) :
    Calls Try.prog 34 #[.pointer (some ⟨g, 0, none⟩)] w fun e w' => PanE 6 e ∧ ∃ m, w' = w.drewN m := by
  obtain ⟨Aw, cw, rfl, q1, q2, q3, q4, q5⟩ := hm.wts
  obtain ⟨_, Ao, co, rfl, s1, s2, _⟩ := Sl.of_own hm.out
  have hb' : w.heap[g]? = _ := hb
  obtain ⟨M, hM⟩ : ∃ M, M = wt.length := ⟨_, rfl⟩
  rw [← hM] at hb' hwt
  have c1 := hp_cell (j := 1) hb' rfl
  have c7 := hp_cell (j := 7) hb' rfl
  have c8 := hp_cell (j := 8) hb' rfl
  have d1 : decide (most ≤ o.length) = true := by simp; omega
  clear hb hb' hm q4 q5 hM
  go_enter Try.func34, Try.ntmps34
  go_wp2_with fail
  go_quiet (fail)
  go_wp2_with fail
  exact ⟨rfl, rfl, _, rfl⟩
set_option maxRecDepth 100000 in
set_option maxHeartbeats 2000000 in
theorem one_end (g gl : Nat) (A : Option Addr) (n cap : Nat) (b : Nat → Nat) (most sz : Nat) (p wd nx : Nat) (vt vw vo : Value) (lc : Int) (er : Int) (t : List (Nat × Nat)) (o : List Nat) (S : List Nat) (hn : n ≤ 1000000) (hp : p ≤ 8 * n) (hk : 8 * n < p + wd) (hk24 : wd ≤ 12) (w : World)
    (hb : LzBox g gl most sz wd nx vt lc vw vo false er w) (hm : LzMem g gl A n cap b p vt vw vo t [] o S w) :
    Calls Try.prog 34 #[.pointer (some ⟨g, 0, none⟩)] w fun e w' => StopE e ∧ ∃ m, w' = w.drewN m := by
  obtain ⟨Aw, cw, rfl, q1, q2, q3, q4, q5⟩ := hm.wts
  have hb' : w.heap[g]? = _ := hb
  have c0 := hp_cell (j := 0) hb' rfl
  have c3 := hp_cell (j := 3) hb' rfl
  have c7 := hp_cell (j := 7) hb' rfl
  have HR := Lib.hid hm.rd
  clear hb hb' hm q4 q5
  go_enter Try.func34, Try.ntmps34
  go_wp2_with fail
  go_still_tail 9, (by kernel_rfl)
  change wpList _ _ _ _ _ w.drew
  go_wp2_with fail
  refine (takeL_end gl A n cap b p _ _ hn hp wd hk (by omega) _ (HR.out.chg ((Chg.refl [] w).drew) (by simp) (fun _ _ _ => by simp))).mono ?_
  rintro e w1 ⟨rfl, m, rfl⟩
  go_wp2_with fail
  exact ⟨rfl, rfl, 1 + m, rfl⟩
/-- Where the reader stands behind a row's code, the row still to be put out. -/
def Cz.stepQ (s : Cz) (cl : Nat) (row : List Nat) : Cz := ⟨s.p + s.wd, wideC cl s.wd s.rows s.last, rowsC cl s.rows s.last row, some row, s.out⟩
def Cz.on (s : Cz) : Cz := ⟨s.p + s.wd, s.wd, s.rows, s.last, s.out⟩
theorem GoodC.on {n cl sz : Nat} {s : Cz} (h : GoodC n cl sz s) (hp : s.p + s.wd ≤ 8 * n) : GoodC n cl sz s.on := ⟨h.clv, h.sz2, h.sz8, h.wd1, h.wd2, hp, h.full, h.rows, h.last, h.none, h.out⟩
theorem GoodC.stepQ {n cl sz : Nat} {s : Cz} (h : GoodC n cl sz s) (hp : s.p + s.wd ≤ 8 * n) (c : Nat) (hlt : c < 4096) (hc : c ≠ cl) (hc1 : c ≠ cl + 1) (hb : badC cl s.rows s.last c = false) : GoodC n cl sz (s.stepQ cl (rowC cl s.rows s.last c)) := by
  have g := h.step hp c hlt hc hc1 hb
  exact ⟨g.clv, g.sz2, g.sz8, g.wd1, g.wd2, g.p, g.full, g.rows, g.last, g.none, h.out⟩
theorem rowOf_mono {cl : Nat} {rows x : List (List Nat)} {c : Nat} {l : List Nat} (h : rowOf cl rows c = some l) : rowOf cl (rows ++ x) c = some l := by
  unfold rowOf at h ⊢
  by_cases h1 : c < cl
  · rw [if_pos h1] at h ⊢; exact h
  · rw [if_neg h1] at h ⊢
    by_cases h2 : c < cl + 2
    · rw [if_pos h2] at h; cases h
    · rw [if_neg h2] at h ⊢
      rw [List.getElem?_append_left (List.getElem?_eq_some_iff.1 h).1]
      exact h
theorem TabOk.snoc {cl : Nat} {rows : List (List Nat)} {t : List (Nat × Nat)} (h : TabOk cl rows t) {c v : Nat} {l : List Nat} (hc : c < cl + 2 + rows.length) (hl : rowOf cl rows c = some l) (hv : v < 256) : TabOk cl (rows ++ [l ++ [v]]) (t ++ [(c, v)]) := by
  refine ⟨by simp [h.len], fun i r hi => ?_⟩
  by_cases hlt : i < rows.length
  · rw [List.getElem?_append_left hlt] at hi
    obtain ⟨a, v', pre, h1, h2, h3, h4, h5⟩ := h.row i r hi
    exact ⟨a, v', pre, by rw [List.getElem?_append_left (by rw [h.len]; exact hlt)]; exact h1, h2, h3, rowOf_mono h4, h5⟩
  · rw [List.getElem?_append_right (by omega)] at hi
    have h0 : i - rows.length = 0 := by
      have := (List.getElem?_eq_some_iff.1 hi).1
      simp at this
      omega
    rw [h0] at hi
    simp at hi
    subst hi
    exact ⟨c, v, l, by rw [List.getElem?_append_right (by rw [h.len]; omega), h.len, h0]; rfl, by omega, hv, rowOf_mono hl, rfl⟩
theorem rowOf_next (cl : Nat) (rows : List (List Nat)) (r : List Nat) : rowOf cl (rows ++ [r]) (cl + 2 + rows.length) = some r := by
  unfold rowOf
  rw [if_neg (by omega), if_neg (by omega), show cl + 2 + rows.length - cl - 2 = rows.length by omega]
  simp
theorem growB_eq (cl wd : Nat) (rows : List (List Nat)) (l : List Nat) : growB wd (cl + 2 + rows.length) = wideC cl wd rows (some l) := by
  unfold growB wideC
  simp [and_assoc]
theorem growN_eq (cl : Nat) (rows : List (List Nat)) (l row : List Nat) : growN (cl + 2 + rows.length) = cl + 2 + (rowsC cl rows (some l) row).length := by
  rw [rowsC_len]
  unfold growN
  simp only [Option.isSome_some, true_and]
  split <;> omega
/-- What a further code says. -/
theorem further_pure {n cl sz : Nat} {s : Cz} {lc : Int} {t : List (Nat × Nat)} (h : LzPu n cl sz s lc t) (c : Nat) (hlt : c < 4096) (hc : c ≠ cl) (hc1 : c ≠ cl + 1) (hb : badC cl s.rows s.last c = false) (l0 : List Nat) (hl : s.last = some l0) :
    (c < cl + 2 + s.rows.length ∧ rowOf cl s.rows c = some (rowC cl s.rows s.last c)) ∨ (c = cl + 2 + s.rows.length ∧ c < 4096 ∧ rowC cl s.rows s.last c = l0 ++ [l0.headD 0]) := by
  unfold badC at hb
  rw [hl] at hb
  by_cases h1 : c < cl
  · refine .inl ⟨by omega, ?_⟩
    unfold rowOf rowC
    rw [if_pos h1, if_pos h1]
  · simp [h1] at hb
    by_cases h2 : c = cl + 2 + s.rows.length
    · refine .inr ⟨h2, hlt, ?_⟩
      unfold rowC
      rw [if_neg h1, if_pos h2, hl]
      rfl
    · refine .inl ⟨by omega, ?_⟩
      unfold rowOf rowC
      rw [if_neg h1, if_neg (by omega), if_neg h1, if_neg h2, List.getElem?_eq_getElem (by omega)]
      rfl
theorem LzPu.further {n cl sz : Nat} {s : Cz} {lc : Int} {t t' : List (Nat × Nat)} (h : LzPu n cl sz s lc t) (hp : s.p + s.wd ≤ 8 * n) (c : Nat) (hlt : c < 4096) (hc : c ≠ cl) (hc1 : c ≠ cl + 1) (hb : badC cl s.rows s.last c = false) (l0 : List Nat) (hl : s.last = some l0) (k : Nat) (hk : lc = (k : Nat))
    (h1 : cl + 2 + s.rows.length < 4096 → t' = t ++ [(k, (rowC cl s.rows s.last c).headD 0)]) (h2 : ¬ cl + 2 + s.rows.length < 4096 → t' = t) : LzPu n cl sz (s.stepQ cl (rowC cl s.rows s.last c)) (c : Nat) t' := by
  have hf := further_pure h c hlt hc hc1 hb l0 hl
  have hg := h.good.stepQ hp c hlt hc hc1 hb
  have hok := rowC_ok h.good c hc hc1 hb
  obtain ⟨k', hk', hkl, hkr⟩ := h.l1 l0 hl
  have hkk : k' = k := by omega
  subst hkk
  generalize rowC cl s.rows s.last c = row at *
  have hrows : (s.stepQ cl row).rows = rowsC cl s.rows s.last row := rfl
  by_cases hfull : cl + 2 + s.rows.length < 4096
  · have he : rowsC cl s.rows s.last row = s.rows ++ [l0 ++ [row.headD 0]] := by unfold rowsC; rw [hl, if_pos ⟨rfl, hfull⟩]; rfl
    have ht' := h1 hfull
    subst ht'
    refine ⟨hg, ?_, (fun e => by cases e), fun l e => ?_⟩
    · rw [hrows, he]
      exact h.tb.snoc hkl hkr (head_lt hok.1)
    · have e' : some row = some l := e
      injection e' with e'
      subst e'
      rw [hrows, he]
      refine ⟨c, rfl, ?_, ?_⟩
      · rcases hf with h9 | h9 <;> simp <;> omega
      · rcases hf with h9 | h9
        · exact rowOf_mono h9.2
        · rw [h9.1, rowOf_next, h9.2.2]
          congr 2
          cases l0 with
          | nil => exact absurd rfl (h.good.last _ hl).1
          | cons a q => rfl
  · have he : rowsC cl s.rows s.last row = s.rows := by unfold rowsC; rw [if_neg (fun h => hfull h.2)]
    have ht' := h2 hfull
    subst ht'
    refine ⟨hg, by rw [hrows, he]; exact h.tb, (fun e => by cases e), fun l e => ?_⟩
    have e' : some row = some l := e
    injection e' with e'
    subst e'
    rw [hrows, he]
    rcases hf with h9 | h9
    · exact ⟨c, rfl, h9.1, h9.2⟩
    · have := h.good.full
      omega
theorem LzPu.first {n cl sz : Nat} {s : Cz} {lc : Int} {t : List (Nat × Nat)} (h : LzPu n cl sz s lc t) (hp : s.p + s.wd ≤ 8 * n) (c : Nat) (hlt : c < cl) (hl : s.last = none) : LzPu n cl sz (s.stepQ cl [c]) (c : Nat) t := by
  have hcl := cl_le h.good
  have hb : badC cl s.rows s.last c = false := by unfold badC; simp [hlt]
  have hr : rowC cl s.rows s.last c = [c] := by unfold rowC; rw [if_pos hlt]
  have hg := h.good.stepQ hp c (by omega) (by omega) (by omega) hb
  rw [hr] at hg
  have he : rowsC cl s.rows s.last [c] = s.rows := by unfold rowsC; rw [hl, if_neg (by simp)]
  have hrows : (s.stepQ cl [c]).rows = s.rows := he
  refine ⟨hg, by rw [hrows]; exact h.tb, (fun e => by cases e), fun l e => ?_⟩
  have e' : some [c] = some l := e
  injection e' with e'
  subst e'
  refine ⟨c, rfl, by rw [hrows]; omega, ?_⟩
  unfold rowOf
  rw [if_pos hlt]
theorem LzPu.on {n cl sz : Nat} {s : Cz} {lc : Int} {t : List (Nat × Nat)} (h : LzPu n cl sz s lc t) (hp : s.p + s.wd ≤ 8 * n) : LzPu n cl sz s.on lc t := ⟨h.good.on hp, h.tb, h.l0, h.l1⟩
theorem LzPu.reset {n cl sz : Nat} {s : Cz} {lc : Int} {t : List (Nat × Nat)} (h : LzPu n cl sz s lc t) (hp : s.p + s.wd ≤ 8 * n) : LzPu n cl sz (s.reset sz) (-1) [] :=
  ⟨h.good.reset hp, ⟨rfl, fun i r hi => by simp [Cz.reset] at hi⟩, fun _ => rfl, fun l e => by cases e⟩
end Go.Proofs.Ytioghgnngdcicaa
