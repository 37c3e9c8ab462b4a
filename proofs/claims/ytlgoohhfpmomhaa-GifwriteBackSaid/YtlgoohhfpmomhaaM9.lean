/- A reader of GIF's codes: one step. A reader of GIF's codes: one step, whatever stands there. A reader of GIF's codes: one code. A reader of GIF's codes: one step goes on to what all of it comes to. -/
import Derived.Test.YtlgoohhfpmomhaaM8

namespace Go.Proofs.Ytlgoohhfpmomhaa
set_option maxRecDepth 100000
set_option linter.unusedVariables false
open Go.ChangeShapes Go.WideShapes Go.ChangeAt Go.RowKit

theorem elem_u8b : Try.prog.elem 32 = 5 := by kernel_rfl
theorem size_u8b (W : World) : (sizeOf 5).run Try.prog W = .ok 1 W := by kernel_rfl
theorem und_u8b : Try.prog.underlying 32 = some (.slice (Try.prog.elem 32)) := by rw [elem_u8b]; exact Try.underlying32
theorem run_tail1 (A : Option Addr) (n cap : Nat) (hn : 1 ≤ n) (W : World) :
    (Instr.sliceAt 32 (.slice A n cap) (some (.int .i64 1)) none none).run Try.prog W = .ok (.slice (if cap = 1 then A else A.map (·.add 1)) (n - 1) (cap - 1)) W := by
  rw [run_sliceAt_slice _ _ _ _ _ _ und_u8b, run_slice_l W 32 A n cap und_u8b .i64 1 (by omega) (by omega), elem_u8b, size_u8b]
  simp [Result.andThen, sliced]
theorem wts_tail {g : Nat} {vt vo vw : Value} {x : Nat} {r : List Nat} {w : World} {A : Option Addr} {M c : Nat} (he : vw = .slice A M c) (hM : M = (x :: r).length) (h : Wts g vt vo vw (x :: r) w) : Wts g vt vo (.slice (if c = 1 then A else A.map (·.add 1)) (M - 1) (c - 1)) r w := by
  obtain ⟨A', c', h0, h1, h2, hz, hb, ha⟩ := h
  rw [he] at h0
  injection h0 with e1 e2 e3
  subst e1 e3
  have hM1 : M = r.length + 1 := by simpa using hM
  have h1' : r.length + 1 ≤ c := by simpa using h1
  refine ⟨_, c - 1, by rw [hM1]; rfl, by omega, by omega, fun hn => ?_, fun hr => ?_, fun a hA => ?_⟩
  · split at hn
    · omega
    · cases A with
      | none => have := hz rfl; omega
      | some a => cases hn
  · obtain ⟨bk, off, rfl, hlt, hc⟩ := hb (by simp)
    rw [if_neg (by omega)]
    refine ⟨bk, off + 1, rfl, hlt, fun j hj => ?_⟩
    have := hc (j + 1) (by simp; omega)
    rw [show off + 1 + j = off + (j + 1) by omega, this]
    simp [gz]
  · split at hA
    · exact ha a hA
    · cases A with
      | none => cases hA
      | some a0 =>
        simp at hA
        subst hA
        exact ha a0 rfl
theorem slice_if {A : Option Addr} {c m k : Nat} : Value.slice (if c = 1 then A else A.map (·.add 1)) m k = Value.slice (if c = 1 then A else A.map (·.add 1)) m k := rfl
set_option maxRecDepth 100000 in
set_option maxHeartbeats 2000000 in
theorem emit_yes (g gl : Nat) (A : Option Addr) (n cap : Nat) (b : Nat → Nat) (most sz : Nat) (p wd nx : Nat) (vt vw vo : Value) (lc : Int) (er : Int) (t : List (Nat × Nat)) (x : Nat) (r o : List Nat) (S : List Nat) (hmost : most ≤ 1000000) (ho : o.length < most) (w : World)
    (hb : LzBox g gl most sz wd nx vt lc vw vo false er w) (hm : LzMem g gl A n cap b p vt vw vo t (x :: r) o S w) :
    Calls Try.prog 83 #[.pointer (some ⟨g, 0, none⟩)] w fun e w' => e = .returned (.tuple #[]) ∧ ∃ vw' vo' S', LzBox g gl most sz wd nx vt lc vw' vo' false er w' ∧ LzMem g gl A n cap b p vt vw' vo' t r (o ++ [x]) S' w' ∧ More S S' w ∧ Chg S w w' := by
  obtain ⟨i0, hi, hz0, hz1, hz2⟩ := info_parts info8
  obtain ⟨Aw, cw, rfl, q1, q2, q3, q4, q5⟩ := hm.wts
  obtain ⟨_, Ao, co, rfl, s1, s2, _⟩ := Sl.of_own hm.out
  obtain ⟨bw, ow, rfl, hbw, hcw⟩ := q4 (by simp)
  have cx := hcw 0 (by simp)
  have hb' : w.heap[g]? = _ := hb
  obtain ⟨M, hM⟩ : ∃ M, M = (x :: r).length := ⟨_, rfl⟩
  rw [← hM] at hb' hm q1
  have hM1 : 1 ≤ M := by rw [hM]; simp
  have c1 := hp_cell (j := 1) hb' rfl
  have c7 := hp_cell (j := 7) hb' rfl
  have c8 := hp_cell (j := 8) hb' rfl
  have ff := fun j => hp_froz hb' j
  have hgs := hm.gs
  rw [show gz (x :: r) 0 = x from rfl, Nat.add_zero] at cx
  have d1 : decide (most ≤ o.length) = false := by simp; omega
  have HM := Lib.hid hm
  have HBX := Lib.hid hb'
  have HMe := Lib.hid hM
  have HQ5 := Lib.hid (q5 _ rfl)
  clear hb hb' hm hM q4 q5 hcw
  go_enter Try.func83, Try.ntmps83
  go_wp2_with fail
  go_quiet (fail)
  go_wp2_with fail
  obtain ⟨wq, hwq⟩ : ∃ wq, wq = w.drewN nq := ⟨_, rfl⟩
  have hsq : wq.heap.size = w.heap.size := by rw [hwq]; rfl
  have HMq : Hid (LzMem g gl A n cap b p vt (.slice (some ⟨bw, ow, none⟩) M cw) (.slice Ao o.length co) t (x :: r) o S wq) := by rw [hwq]; exact Lib.hid (HM.out.drewN nq)
  have HCq : Hid (Chg S w wq) := by rw [hwq]; exact Lib.hid ((Chg.refl S w).drewN nq)
  have HBq : Hid (LzBox g gl most sz wd nx vt lc (.slice (some ⟨bw, ow, none⟩) M cw) (.slice Ao o.length co) false er wq) := by rw [hwq]; exact Lib.hid HBX.out
  have cxq : wq.cell? ⟨bw, ow, none⟩ = some (.int .u8 (x : Nat)) := by rw [hwq]; exact cx
  rw [← hwq]
  have HSQ := Lib.hid hsq
  clear hwq hsq c1 c7 c8 ff cx HM HBX
  have hgq : g < wq.heap.size := HMq.out.gs
  have c7 := hp_cell (j := 7) HBq.out rfl
  have c8 := hp_cell (j := 8) HBq.out rfl
  have ff := fun j => hp_froz HBq.out j
  have hA := HMq.out.below ((Below.refl _ wq).alloc (Nat.le_refl _) (.cells #[.int .u8 (x : Nat)] 5)).drew
  have hnw := hp_new0 wq (.cells #[.int .u8 (x : Nat)] 5)
  obtain ⟨vo', w3, hr3, hown3, hgrow3, hat3⟩ := run_app (P := Try.prog) (w := (wq.alloc (.cells #[.int .u8 (x : Nat)] 5)).drew) (g + 1) 32 32 5 i0 (.int .u8 0) 1 1 Try.underlying32 hi hz0 hz1 hz2 rfl (by omega) (.slice Ao o.length co) o.length (cellsB o) hA.out
    (some ⟨wq.heap.size, 0, none⟩) 1 1 [.int .u8 (x : Nat)] (by simp) rfl (fun _ => ⟨_, 0, rfl, fun j u hj => by
      match j, hj with
      | 0, hj => simp at hj; subst hj; exact hp_cell (j := 0) hnw rfl
      | j + 1, hj => simp at hj⟩) (by intro u hu; simp at hu; subst hu; rfl) (by unfold maxLen; omega) (by omega) (by have := HMq.out.gs; simp; omega)
  rw [← cellsB_snoc] at hown3
  replace hown3 := own_len (show o.length + 1 = (o ++ [x]).length by simp) hown3
  obtain ⟨S', hm3, hMo, hC3⟩ := LzMem.newOut (o' := o ++ [x]) (w := (wq.alloc (.cells #[.int .u8 (x : Nat)] 5)).drew) hA hgrow3 hown3 hat3
  obtain ⟨gt, ct, rfl⟩ := own_some hown3 (by simp)
  have hb3 := (hgrow3.block g (by have := HMq.out.gs; simp; omega) (fun e => by have := (HMq.out.out.lt _ e.symm).1; omega)).trans (hp_alloc (.cells #[.int .u8 (x : Nat)] 5) HBq.out)
  have m7 := hp_cell (j := 7) hb3 rfl
  have m8 := hp_cell (j := 8) hb3 rfl
  have mf := fun j => hp_froz hb3 j
  rw [show (o ++ [x]).length = o.length + 1 by simp] at hm3
  have HB3 := Lib.hid hb3
  have HR3 := Lib.hid hr3
  have HM3 := Lib.hid hm3
  have hCx : Chg S w w3 := HCq.out.trans ((((Chg.refl S wq).alloc (.cells #[.int .u8 (x : Nat)] 5)).drew).trans hC3)
  have HCX := Lib.hid hCx
  have hwt := wts_tail rfl HMe.out hm3.wts
  have hwt2 := fun (h : cw = 1) => (show Wts g vt (.slice (some ⟨gt, 0, none⟩) (o.length + 1) ct) (.slice (some ⟨bw, ow, none⟩) 0 0) r w3 by simpa [h, show M - 1 = 0 by omega] using hwt)
  have hwt3 := fun (h : ¬ cw = 1) => (show Wts g vt (.slice (some ⟨gt, 0, none⟩) (o.length + 1) ct) (.slice (some ⟨bw, ow + 1, none⟩) (M - 1) (cw - 1)) r w3 by simpa [h, Addr.add_lit] using hwt)
  have H2 := Lib.hid hwt2
  have H3 := Lib.hid hwt3
  have hMO2 : More S S' w := fun k hk => by
    rcases hMo k hk with h9 | h9
    · exact .inl h9
    · refine .inr ?_
      have h8 : wq.heap.size + 1 ≤ k := by simpa using h9
      have := HSQ.out
      omega
  have HMO := Lib.hid hMO2
  clear hA hr3 hown3 hm3 hMo hC3 hat3 hgrow3 hb3 hnw hCx hwt hwt2 hwt3 hMO2
  by_cases hcw : cw = 1
  · have H4 := Lib.hid (H2.out hcw)
    subst hcw
    clear H2 H3
    go_wp2_with fail
    go_region_law (first | (refine step_app (by rfl) _ _ _ (by rfl) _ _ _ _ (by rfl) (by rfl) HR3.out ?_) | fail)
    all_goals
      go_wp2
      refine bodyPost_ret (v := .tuple #[]) (by simp [results, Try.results83, go_sem]) rfl ?_
      have hc3 : Chg [g] w3 ((w3.setCell ⟨g, 8, none⟩ (.slice (some ⟨gt, 0, none⟩) (o.length + 1) ct)).setCell ⟨g, 7, none⟩ (.slice (some ⟨bw, ow, none⟩) 0 0)) := (((Chg.refl _ w3).set (.inl (by simp)) _ _).set (.inl (by simp)) _ _)
      exact ⟨rfl, _, _, S', heap_set (heap_set HB3.out), (HM3.out.newWts H4.out).setG hc3 (by simp), HMO.out, HCX.out.trans (hc3.mono (by simpa using HMq.out.s1))⟩
  · have H4 := Lib.hid (H3.out hcw)
    clear H2 H3
    go_wp2_with fail
    go_region_law (first | (refine step_app (by rfl) _ _ _ (by rfl) _ _ _ _ (by rfl) (by rfl) HR3.out ?_) | fail)
    all_goals
      go_wp2
      refine bodyPost_ret (v := .tuple #[]) (by simp [results, Try.results83, go_sem]) rfl ?_
      have hc3 : Chg [g] w3 ((w3.setCell ⟨g, 8, none⟩ (.slice (some ⟨gt, 0, none⟩) (o.length + 1) ct)).setCell ⟨g, 7, none⟩ (.slice (some ⟨bw, ow + 1, none⟩) (M - 1) (cw - 1))) := (((Chg.refl _ w3).set (.inl (by simp)) _ _).set (.inl (by simp)) _ _)
      exact ⟨rfl, _, _, S', heap_set (heap_set HB3.out), (HM3.out.newWts H4.out).setG hc3 (by simp), HMO.out, HCX.out.trans (hc3.mono (by simpa using HMq.out.s1))⟩
end Go.Proofs.Ytlgoohhfpmomhaa

namespace Go.Proofs.Ytlgoohhfpmomhaa
set_option maxRecDepth 100000
set_option linter.unusedVariables false
open Go.ChangeShapes Go.WideShapes Go.ChangeAt Go.RowKit

/-- A reader's end, thrown. -/
def StopE (e : Ending) : Prop := e = .panicked [{ v := .iface 111 (.agg #[]), recovered := false }]
set_option maxRecDepth 100000 in
set_option maxHeartbeats 1000000 in
theorem ask_end (T : TypeId) (g : Nat) (A : Option Addr) (n cap : Nat) (b : Nat → Nat) (p : Nat) (vo : Value) (fr : Int) (hn : n ≤ 1000000) (hp : p ≤ 8 * n) (k : Nat) (hk : 8 * n < p + k) (hk24 : k ≤ 24) (w : World) (h : Rd T g A n cap b p vo fr w) :
    Calls Try.prog 90 #[.pointer (some ⟨g, 0, none⟩), .int .i64 (k : Nat)] w fun e w' => StopE e ∧ ∃ m, w' = w.drewN m := by
  go_enter Try.func90, Try.ntmps90
  have d1 : decide ((k : Int) < 0) = false := by simp
  have d2 : decide (24 < (k : Int)) = false := by simp; omega
  go_wp2_with fail
  refine (left_row T g A n cap b p vo fr hn hp _ h).mono ?_
  rintro e w1 ⟨rfl, m, rfl⟩
  have d3 : decide (8 * n - p < k) = true := by simp; omega
  go_wp2
  exact ⟨rfl, rfl, _, rfl⟩
set_option maxRecDepth 100000 in
set_option maxHeartbeats 1000000 in
theorem takeL_end (g : Nat) (A : Option Addr) (n cap : Nat) (b : Nat → Nat) (p : Nat) (vo : Value) (fr : Int) (hn : n ≤ 1000000) (hp : p ≤ 8 * n) (k : Nat) (hk : 8 * n < p + k) (hk24 : k ≤ 24) (w : World) (h : Rd 86 g A n cap b p vo fr w) :
    Calls Try.prog 86 #[.pointer (some ⟨g, 0, none⟩), .int .i64 (k : Nat)] w fun e w' => StopE e ∧ ∃ m, w' = w.drewN m := by
  have c0 := hp_cell (j := 0) h.box rfl
  go_enter Try.func86, Try.ntmps86
  go_wp2_with fail
  refine (ask_end _ g A n cap b p vo fr hn hp k hk hk24 _ h).mono ?_
  rintro e w1 ⟨rfl, m, rfl⟩
  go_wp2
  exact ⟨rfl, rfl, m, rfl⟩
set_option maxRecDepth 100000 in
set_option maxHeartbeats 2000000 in
theorem emit_no (g gl : Nat) (A : Option Addr) (n cap : Nat) (b : Nat → Nat) (most sz : Nat) (p wd nx : Nat) (vt vw vo : Value) (lc : Int) (er : Int) (t : List (Nat × Nat)) (wt o : List Nat) (S : List Nat) (hmost : most ≤ 1000000) (ho : most ≤ o.length) (hwt : 0 < wt.length) (w : World)
    (hb : LzBox g gl most sz wd nx vt lc vw vo false er w) (hm : LzMem g gl A n cap b p vt vw vo t wt o S w) :
    Calls Try.prog 83 #[.pointer (some ⟨g, 0, none⟩)] w fun e w' => PanE 6 e ∧ ∃ m, w' = w.drewN m := by
  obtain ⟨Aw, cw, rfl, q1, q2, q3, q4, q5⟩ := hm.wts
  obtain ⟨_, Ao, co, rfl, s1, s2, _⟩ := Sl.of_own hm.out
  have hb' : w.heap[g]? = _ := hb
  obtain ⟨M, hM⟩ : ∃ M, M = wt.length := ⟨_, rfl⟩
  rw [← hM] at hb' hwt
  have c1 := hp_cell (j := 1) hb' rfl
  have c7 := hp_cell (j := 7) hb' rfl
  have c8 := hp_cell (j := 8) hb' rfl
  have d1 : decide (most ≤ o.length) = true := by simp; omega
  clear hb hb' hm q4 q5 hM
  go_enter Try.func83, Try.ntmps83
  go_wp2_with fail
  go_quiet (fail)
  go_wp2_with fail
  exact ⟨rfl, rfl, _, rfl⟩
set_option maxRecDepth 100000 in
set_option maxHeartbeats 2000000 in
theorem one_end (g gl : Nat) (A : Option Addr) (n cap : Nat) (b : Nat → Nat) (most sz : Nat) (p wd nx : Nat) (vt vw vo : Value) (lc : Int) (er : Int) (t : List (Nat × Nat)) (o : List Nat) (S : List Nat) (hn : n ≤ 1000000) (hp : p ≤ 8 * n) (hk : 8 * n < p + wd) (hk24 : wd ≤ 12) (w : World)
    (hb : LzBox g gl most sz wd nx vt lc vw vo false er w) (hm : LzMem g gl A n cap b p vt vw vo t [] o S w) :
    Calls Try.prog 83 #[.pointer (some ⟨g, 0, none⟩)] w fun e w' => StopE e ∧ ∃ m, w' = w.drewN m := by
  obtain ⟨Aw, cw, rfl, q1, q2, q3, q4, q5⟩ := hm.wts
  have hb' : w.heap[g]? = _ := hb
  have c0 := hp_cell (j := 0) hb' rfl
  have c3 := hp_cell (j := 3) hb' rfl
  have c7 := hp_cell (j := 7) hb' rfl
  have HR := Lib.hid hm.rd
  clear hb hb' hm q4 q5
  go_enter Try.func83, Try.ntmps83
  go_wp2_with fail
  go_still_tail 9, (by kernel_rfl)
  change wpList _ _ _ _ _ w.drew
  go_wp2_with fail
  refine (takeL_end gl A n cap b p _ _ hn hp wd hk (by omega) _ (HR.out.chg ((Chg.refl [] w).drew) (by simp) (fun _ _ _ => by simp))).mono ?_
  rintro e w1 ⟨rfl, m, rfl⟩
  go_wp2_with fail
  exact ⟨rfl, rfl, 1 + m, rfl⟩
/-- Where the reader stands behind a row's code, the row still to be put out. -/
def Cz.stepQ (s : Cz) (cl : Nat) (row : List Nat) : Cz := ⟨s.p + s.wd, wideC cl s.wd s.rows s.last, rowsC cl s.rows s.last row, some row, s.out⟩
def Cz.on (s : Cz) : Cz := ⟨s.p + s.wd, s.wd, s.rows, s.last, s.out⟩
theorem GoodC.on {n cl sz : Nat} {s : Cz} (h : GoodC n cl sz s) (hp : s.p + s.wd ≤ 8 * n) : GoodC n cl sz s.on := ⟨h.clv, h.sz2, h.sz8, h.wd1, h.wd2, hp, h.full, h.rows, h.last, h.none, h.out⟩
theorem GoodC.stepQ {n cl sz : Nat} {s : Cz} (h : GoodC n cl sz s) (hp : s.p + s.wd ≤ 8 * n) (c : Nat) (hlt : c < 4096) (hc : c ≠ cl) (hc1 : c ≠ cl + 1) (hb : badC cl s.rows s.last c = false) : GoodC n cl sz (s.stepQ cl (rowC cl s.rows s.last c)) := by
  have g := h.step hp c hlt hc hc1 hb
  exact ⟨g.clv, g.sz2, g.sz8, g.wd1, g.wd2, g.p, g.full, g.rows, g.last, g.none, h.out⟩
theorem rowOf_mono {cl : Nat} {rows x : List (List Nat)} {c : Nat} {l : List Nat} (h : rowOf cl rows c = some l) : rowOf cl (rows ++ x) c = some l := by
  unfold rowOf at h ⊢
  by_cases h1 : c < cl
  · rw [if_pos h1] at h ⊢; exact h
  · rw [if_neg h1] at h ⊢
    by_cases h2 : c < cl + 2
    · rw [if_pos h2] at h; cases h
    · rw [if_neg h2] at h ⊢
      rw [List.getElem?_append_left (List.getElem?_eq_some_iff.1 h).1]
      exact h
theorem TabOk.snoc {cl : Nat} {rows : List (List Nat)} {t : List (Nat × Nat)} (h : TabOk cl rows t) {c v : Nat} {l : List Nat} (hc : c < cl + 2 + rows.length) (hl : rowOf cl rows c = some l) (hv : v < 256) : TabOk cl (rows ++ [l ++ [v]]) (t ++ [(c, v)]) := by
  refine ⟨by simp [h.len], fun i r hi => ?_⟩
  by_cases hlt : i < rows.length
  · rw [List.getElem?_append_left hlt] at hi
    obtain ⟨a, v', pre, h1, h2, h3, h4, h5⟩ := h.row i r hi
    exact ⟨a, v', pre, by rw [List.getElem?_append_left (by rw [h.len]; exact hlt)]; exact h1, h2, h3, rowOf_mono h4, h5⟩
  · rw [List.getElem?_append_right (by omega)] at hi
    have h0 : i - rows.length = 0 := by
      have := (List.getElem?_eq_some_iff.1 hi).1
      simp at this
      omega
    rw [h0] at hi
    simp at hi
    subst hi
    exact ⟨c, v, l, by rw [List.getElem?_append_right (by rw [h.len]; omega), h.len, h0]; rfl, by omega, hv, rowOf_mono hl, rfl⟩
theorem rowOf_next (cl : Nat) (rows : List (List Nat)) (r : List Nat) : rowOf cl (rows ++ [r]) (cl + 2 + rows.length) = some r := by
  unfold rowOf
  rw [if_neg (by omega), if_neg (by omega), show cl + 2 + rows.length - cl - 2 = rows.length by omega]
  simp
theorem growB_eq (cl wd : Nat) (rows : List (List Nat)) (l : List Nat) : growB wd (cl + 2 + rows.length) = wideC cl wd rows (some l) := by
  unfold growB wideC
  simp
theorem growN_eq (cl : Nat) (rows : List (List Nat)) (l row : List Nat) : growN (cl + 2 + rows.length) = cl + 2 + (rowsC cl rows (some l) row).length := by
  rw [rowsC_len]
  unfold growN
  simp only [Option.isSome_some, true_and]
  split <;> omega
/-- What a further code says. -/
theorem further_pure {n cl sz : Nat} {s : Cz} {lc : Int} {t : List (Nat × Nat)} (h : LzPu n cl sz s lc t) (c : Nat) (hlt : c < 4096) (hc : c ≠ cl) (hc1 : c ≠ cl + 1) (hb : badC cl s.rows s.last c = false) (l0 : List Nat) (hl : s.last = some l0) :
    (c < cl + 2 + s.rows.length ∧ rowOf cl s.rows c = some (rowC cl s.rows s.last c)) ∨ (c = cl + 2 + s.rows.length ∧ c < 4096 ∧ rowC cl s.rows s.last c = l0 ++ [l0.headD 0]) := by
  unfold badC at hb
  rw [hl] at hb
  by_cases h1 : c < cl
  · refine .inl ⟨by omega, ?_⟩
    unfold rowOf rowC
    rw [if_pos h1, if_pos h1]
  · simp [h1] at hb
    by_cases h2 : c = cl + 2 + s.rows.length
    · refine .inr ⟨h2, hlt, ?_⟩
      unfold rowC
      rw [if_neg h1, if_pos h2, hl]
      rfl
    · refine .inl ⟨by omega, ?_⟩
      unfold rowOf rowC
      rw [if_neg h1, if_neg (by omega), if_neg h1, if_neg h2, List.getElem?_eq_getElem (by omega)]
      rfl
theorem LzPu.further {n cl sz : Nat} {s : Cz} {lc : Int} {t t' : List (Nat × Nat)} (h : LzPu n cl sz s lc t) (hp : s.p + s.wd ≤ 8 * n) (c : Nat) (hlt : c < 4096) (hc : c ≠ cl) (hc1 : c ≠ cl + 1) (hb : badC cl s.rows s.last c = false) (l0 : List Nat) (hl : s.last = some l0) (k : Nat) (hk : lc = (k : Nat))
    (h1 : cl + 2 + s.rows.length < 4096 → t' = t ++ [(k, (rowC cl s.rows s.last c).headD 0)]) (h2 : ¬ cl + 2 + s.rows.length < 4096 → t' = t) : LzPu n cl sz (s.stepQ cl (rowC cl s.rows s.last c)) (c : Nat) t' := by
  have hf := further_pure h c hlt hc hc1 hb l0 hl
  have hg := h.good.stepQ hp c hlt hc hc1 hb
  have hok := rowC_ok h.good c hc hc1 hb
  obtain ⟨k', hk', hkl, hkr⟩ := h.l1 l0 hl
  have hkk : k' = k := by omega
  subst hkk
  generalize rowC cl s.rows s.last c = row at *
  have hrows : (s.stepQ cl row).rows = rowsC cl s.rows s.last row := rfl
  by_cases hfull : cl + 2 + s.rows.length < 4096
  · have he : rowsC cl s.rows s.last row = s.rows ++ [l0 ++ [row.headD 0]] := by unfold rowsC; rw [hl, if_pos ⟨rfl, hfull⟩]; rfl
    have ht' := h1 hfull
    subst ht'
    refine ⟨hg, ?_, (fun e => by cases e), fun l e => ?_⟩
    · rw [hrows, he]
      exact h.tb.snoc hkl hkr (head_lt hok.1)
    · have e' : some row = some l := e
      injection e' with e'
      subst e'
      rw [hrows, he]
      refine ⟨c, rfl, ?_, ?_⟩
      · rcases hf with h9 | h9 <;> simp <;> omega
      · rcases hf with h9 | h9
        · exact rowOf_mono h9.2
        · rw [h9.1, rowOf_next, h9.2.2]
          congr 2
          cases l0 with
          | nil => exact absurd rfl (h.good.last _ hl).1
          | cons a q => rfl
  · have he : rowsC cl s.rows s.last row = s.rows := by unfold rowsC; rw [if_neg (fun h => hfull h.2)]
    have ht' := h2 hfull
    subst ht'
    refine ⟨hg, by rw [hrows, he]; exact h.tb, (fun e => by cases e), fun l e => ?_⟩
    have e' : some row = some l := e
    injection e' with e'
    subst e'
    rw [hrows, he]
    rcases hf with h9 | h9
    · exact ⟨c, rfl, h9.1, h9.2⟩
    · have := h.good.full
      omega
theorem LzPu.first {n cl sz : Nat} {s : Cz} {lc : Int} {t : List (Nat × Nat)} (h : LzPu n cl sz s lc t) (hp : s.p + s.wd ≤ 8 * n) (c : Nat) (hlt : c < cl) (hl : s.last = none) : LzPu n cl sz (s.stepQ cl [c]) (c : Nat) t := by
  have hcl := cl_le h.good
  have hb : badC cl s.rows s.last c = false := by unfold badC; simp [hlt]
  have hr : rowC cl s.rows s.last c = [c] := by unfold rowC; rw [if_pos hlt]
  have hg := h.good.stepQ hp c (by omega) (by omega) (by omega) hb
  rw [hr] at hg
  have he : rowsC cl s.rows s.last [c] = s.rows := by unfold rowsC; rw [hl, if_neg (by simp)]
  have hrows : (s.stepQ cl [c]).rows = s.rows := he
  refine ⟨hg, by rw [hrows]; exact h.tb, (fun e => by cases e), fun l e => ?_⟩
  have e' : some [c] = some l := e
  injection e' with e'
  subst e'
  refine ⟨c, rfl, by rw [hrows]; omega, ?_⟩
  unfold rowOf
  rw [if_pos hlt]
theorem LzPu.on {n cl sz : Nat} {s : Cz} {lc : Int} {t : List (Nat × Nat)} (h : LzPu n cl sz s lc t) (hp : s.p + s.wd ≤ 8 * n) : LzPu n cl sz s.on lc t := ⟨h.good.on hp, h.tb, h.l0, h.l1⟩
theorem LzPu.reset {n cl sz : Nat} {s : Cz} {lc : Int} {t : List (Nat × Nat)} (h : LzPu n cl sz s lc t) (hp : s.p + s.wd ≤ 8 * n) : LzPu n cl sz (s.reset sz) (-1) [] :=
  ⟨h.good.reset hp, ⟨rfl, fun i r hi => by simp [Cz.reset] at hi⟩, fun _ => rfl, fun l e => by cases e⟩
end Go.Proofs.Ytlgoohhfpmomhaa

namespace Go.Proofs.Ytlgoohhfpmomhaa
set_option maxRecDepth 100000
set_option linter.unusedVariables false
open Go.ChangeShapes Go.WideShapes Go.ChangeAt Go.RowKit

set_option maxRecDepth 100000 in
set_option maxHeartbeats 1000000 in
theorem further_no (g gl most sz wd nx : Nat) (vt vw vo : Value) (lc : Int) (en : Bool) (er : Int) (c : Nat) (hlt : nx < c) (w : World)
    (hb : LzBox g gl most sz wd nx vt lc vw vo en er w) :
    Calls Try.prog 88 #[.pointer (some ⟨g, 0, none⟩), .int .i64 (c : Nat)] w fun e w' => PanE 4 e ∧ w = w' := by
  have hb' : w.heap[g]? = _ := hb
  have c4 := hp_cell (j := 4) hb' rfl
  have d1 : decide (c < nx) = false := by simp; omega
  have d2 : (c == nx) = false := by rw [beq_eq_false_iff_ne]; omega
  have d3 : ((c : Int) == (nx : Int)) = false := by rw [beq_eq_false_iff_ne]; omega
  clear hb hb'
  go_enter Try.func88, Try.ntmps88
  go_wp2_with fail
  exact ⟨rfl, rfl, rfl⟩
set_option maxRecDepth 100000 in
set_option maxHeartbeats 2000000 in
theorem one_reset (g gl : Nat) (A : Option Addr) (n cap : Nat) (b : Nat → Nat) (hbt : ∀ i, b i < 256) (most sz cl : Nat) (hcl : Hid (cl = 2 ^ sz)) (hs : sz ≤ 8) (hc4 : 4 ≤ cl ∧ cl ≤ 256) (p wd nx : Nat) (vt vw vo : Value) (lc : Int) (er : Int) (t : List (Nat × Nat)) (o : List Nat) (S : List Nat)
    (hn : n ≤ 1000000) (hp : p ≤ 8 * n) (hk : p + wd ≤ 8 * n) (hwd : wd ≤ 12) (c : Nat) (hT : c = takeL b p wd) (hc : c = cl) (w : World)
    (hb : LzBox g gl most sz wd nx vt lc vw vo false er w) (hm : LzMem g gl A n cap b p vt vw vo t [] o S w) :
    Calls Try.prog 83 #[.pointer (some ⟨g, 0, none⟩)] w fun e w' => e = .returned (.tuple #[]) ∧ ∃ vw', LzBox g gl most sz (sz + 1) (cl + 2) (.slice none 0 0) (-1) vw' vo false er w' ∧ LzMem g gl A n cap b (p + wd) (.slice none 0 0) vw' vo [] [] o S w' ∧ Chg S w w' := by
  have hask : askB (wd : Nat) (8 * n - p) = true := by unfold askB; simp; omega
  obtain ⟨Aw, cw, rfl, q1, q2, q3, q4, q5⟩ := hm.wts
  have hb' : w.heap[g]? = _ := hb
  have c0 := hp_cell (j := 0) hb' rfl
  have c3 := hp_cell (j := 3) hb' rfl
  have c7 := hp_cell (j := 7) hb' rfl
  have hgl := hm.glg
  have HR := Lib.hid hm.rd
  have HM := Lib.hid hm
  have HBX := Lib.hid hb'
  have hglS := hm.s2
  have hgS := hm.s1
  have HT := Lib.hid hT
  clear hT
  subst hc
  clear hb hb' hm q4 q5
  go_enter Try.func83, Try.ntmps83
  go_wp2_with fail
  go_still_tail 9, (by kernel_rfl)
  change wpList _ _ _ _ _ w.drew
  go_wp2_with fail
  refine (takeL_yes gl A n cap b p _ _ hn hp hbt wd hask _ (HR.out.chg ((Chg.refl [] w).drew) (by simp) (fun _ _ _ => by simp))).mono ?_
  rintro e w1 ⟨rfl, hC, hR⟩
  rw [← HT.out]
  have hb1 := hp_chg (W := w.drew) HBX.out hC (by simp; omega)
  have hm1 := (HM.out.drewN 1).take hC hR
  have hC1 : Chg S w w1 := ((Chg.refl S w).drew).trans (hC.mono (by simpa using hglS))
  have k2 := hp_cell (j := 2) hb1 rfl
  have k3 := hp_cell (j := 3) hb1 rfl
  have k4 := hp_cell (j := 4) hb1 rfl
  have k5 := hp_cell (j := 5) hb1 rfl
  have k6 := hp_cell (j := 6) hb1 rfl
  have k9 := hp_cell (j := 9) hb1 rfl
  have ff := fun j => hp_froz hb1 j
  have HM1 := Lib.hid hm1
  have HB1 := Lib.hid hb1
  have HC1 := Lib.hid hC1
  clear hC hR hb1 hm1 hC1 c0 c3 c7 HR HM HBX
  have hW3 : W3 g 2 sz wd nx w1 := ⟨k2, k3, k4, ff⟩
  have HW3 := Lib.hid hW3
  clear hW3
  go_wp2_with (first | (go_at_call 43; refine (clear_c g 2 sz c hs hcl _ k2).mono ?_; rintro e w' ⟨rfl, rfl⟩))
  refine (reset_w g 2 sz wd nx hs _ HW3.out).mono ?_
  rintro e w2 ⟨rfl, hS2⟩
  have hb2 := hS2.blk _ _ HB1.out
  have hm2 := HM1.out.setG hS2.chg (by simp)
  have hC2 := HC1.out.trans (hS2.chg.mono (by simpa using hgS))
  have l5 := hp_cell (j := 5) hb2 rfl
  have l6 := hp_cell (j := 6) hb2 rfl
  have lf := fun j => hp_froz hb2 j
  have HM2 := Lib.hid hm2
  have HB2 := Lib.hid hb2
  have HC2 := Lib.hid hC2
  clear hS2 hb2 hm2 hC2 k2 k3 k4 k5 k6 k9 ff
  go_wp2
  go_end0
  have hc3 : Chg [g] w2 ((w2.setCell ⟨g, 5, none⟩ (.slice none 0 0)).setCell ⟨g, 6, none⟩ (.int .i64 (-1))) := (((Chg.refl _ w2).set (.inl (by simp)) _ _).set (.inl (by simp)) _ _)
  have hb3 := heap_set (i := 6) (x := .int .i64 (-1)) (heap_set (i := 5) (x := .slice none 0 0) HB2.out)
  refine ⟨rfl, _, ?_, (HM2.out.nilTab).setG hc3 (by simp), HC2.out.trans (hc3.mono (by simpa using hgS))⟩
  unfold LzBox
  rw [show c = 2 ^ sz from hcl.out]
  exact hb3
set_option maxRecDepth 100000 in
set_option maxHeartbeats 2000000 in
theorem one_fin (g gl : Nat) (A : Option Addr) (n cap : Nat) (b : Nat → Nat) (hbt : ∀ i, b i < 256) (most sz cl : Nat) (hcl : Hid (cl = 2 ^ sz)) (hs : sz ≤ 8) (hc4 : 4 ≤ cl ∧ cl ≤ 256) (p wd nx : Nat) (vt vw vo : Value) (lc : Int) (er : Int) (t : List (Nat × Nat)) (o : List Nat) (S : List Nat)
    (hn : n ≤ 1000000) (hp : p ≤ 8 * n) (hk : p + wd ≤ 8 * n) (hwd : wd ≤ 12) (c : Nat) (hT : c = takeL b p wd) (hc : c = cl + 1) (w : World)
    (hb : LzBox g gl most sz wd nx vt lc vw vo false er w) (hm : LzMem g gl A n cap b p vt vw vo t [] o S w) :
    Calls Try.prog 83 #[.pointer (some ⟨g, 0, none⟩)] w fun e w' => e = .returned (.tuple #[]) ∧ LzBox g gl most sz wd nx vt lc vw vo true er w' ∧ LzMem g gl A n cap b (p + wd) vt vw vo t [] o S w' ∧ Chg S w w' := by
  have hask : askB (wd : Nat) (8 * n - p) = true := by unfold askB; simp; omega
  obtain ⟨Aw, cw, rfl, q1, q2, q3, q4, q5⟩ := hm.wts
  have hb' : w.heap[g]? = _ := hb
  have c0 := hp_cell (j := 0) hb' rfl
  have c3 := hp_cell (j := 3) hb' rfl
  have c7 := hp_cell (j := 7) hb' rfl
  have hgl := hm.glg
  have HR := Lib.hid hm.rd
  have HM := Lib.hid hm
  have HBX := Lib.hid hb'
  have hglS := hm.s2
  have hgS := hm.s1
  have HT := Lib.hid hT
  clear hT
  clear hb hb' hm q4 q5
  go_enter Try.func83, Try.ntmps83
  go_wp2_with fail
  go_still_tail 9, (by kernel_rfl)
  change wpList _ _ _ _ _ w.drew
  go_wp2_with fail
  refine (takeL_yes gl A n cap b p _ _ hn hp hbt wd hask _ (HR.out.chg ((Chg.refl [] w).drew) (by simp) (fun _ _ _ => by simp))).mono ?_
  rintro e w1 ⟨rfl, hC, hR⟩
  rw [← HT.out]
  have hb1 := hp_chg (W := w.drew) HBX.out hC (by simp; omega)
  have hm1 := (HM.out.drewN 1).take hC hR
  have hC1 : Chg S w w1 := ((Chg.refl S w).drew).trans (hC.mono (by simpa using hglS))
  have k2 := hp_cell (j := 2) hb1 rfl
  have k3 := hp_cell (j := 3) hb1 rfl
  have k4 := hp_cell (j := 4) hb1 rfl
  have k5 := hp_cell (j := 5) hb1 rfl
  have k6 := hp_cell (j := 6) hb1 rfl
  have k9 := hp_cell (j := 9) hb1 rfl
  have ff := fun j => hp_froz hb1 j
  have HM1 := Lib.hid hm1
  have HB1 := Lib.hid hb1
  have HC1 := Lib.hid hC1
  clear hC hR hb1 hm1 hC1 c0 c3 c7 HR HM HBX
  have n1 : ((c : Int) == (cl : Int)) = false := by rw [beq_eq_false_iff_ne]; omega
  have n2 : (c == cl) = false := by rw [beq_eq_false_iff_ne]; omega
  have n3 : ((c : Int) == (cl : Int) + 1) = true := by rw [beq_iff_eq]; omega
  have HC := Lib.hid hc
  clear hc
  go_wp2_with (first | (go_at_call 43; refine (clear_c g 2 sz cl hs hcl _ k2).mono ?_; rintro e w' ⟨rfl, rfl⟩))
  go_end0
  have hc3 : Chg [g] w1 (w1.setCell ⟨g, 9, none⟩ (.bool true)) := ((Chg.refl _ w1).set (.inl (by simp)) _ _)
  exact ⟨rfl, heap_set HB1.out, HM1.out.setG hc3 (by simp), HC1.out.trans (hc3.mono (by simpa using hgS))⟩
set_option maxRecDepth 100000 in
set_option maxHeartbeats 2000000 in
theorem one_first (g gl : Nat) (A : Option Addr) (n cap : Nat) (b : Nat → Nat) (hbt : ∀ i, b i < 256) (most sz cl : Nat) (hcl : Hid (cl = 2 ^ sz)) (hs : sz ≤ 8) (hc4 : 4 ≤ cl ∧ cl ≤ 256) (p wd nx : Nat) (vt vw vo : Value) (lc : Int) (er : Int) (t : List (Nat × Nat)) (o : List Nat) (S : List Nat)
    (hn : n ≤ 1000000) (hp : p ≤ 8 * n) (hk : p + wd ≤ 8 * n) (hwd : wd ≤ 12) (c : Nat) (hT : c = takeL b p wd) (hc : c < cl) (hlc : lc = -1) (w : World)
    (hb : LzBox g gl most sz wd nx vt lc vw vo false er w) (hm : LzMem g gl A n cap b p vt vw vo t [] o S w) :
    Calls Try.prog 83 #[.pointer (some ⟨g, 0, none⟩)] w fun e w' => e = .returned (.tuple #[]) ∧ ∃ vw', LzBox g gl most sz wd nx vt (c : Nat) vw' vo false er w' ∧ LzMem g gl A n cap b (p + wd) vt vw' vo t [c] o S w' ∧ Chg S w w' := by
  have hask : askB (wd : Nat) (8 * n - p) = true := by unfold askB; simp; omega
  obtain ⟨Aw, cw, rfl, q1, q2, q3, q4, q5⟩ := hm.wts
  have hb' : w.heap[g]? = _ := hb
  have c0 := hp_cell (j := 0) hb' rfl
  have c3 := hp_cell (j := 3) hb' rfl
  have c7 := hp_cell (j := 7) hb' rfl
  have hgl := hm.glg
  have HR := Lib.hid hm.rd
  have HM := Lib.hid hm
  have HBX := Lib.hid hb'
  have hglS := hm.s2
  have hgS := hm.s1
  have HT := Lib.hid hT
  clear hT
  subst hlc
  clear hb hb' hm q4 q5
  go_enter Try.func83, Try.ntmps83
  go_wp2_with fail
  go_still_tail 9, (by kernel_rfl)
  change wpList _ _ _ _ _ w.drew
  go_wp2_with fail
  refine (takeL_yes gl A n cap b p _ _ hn hp hbt wd hask _ (HR.out.chg ((Chg.refl [] w).drew) (by simp) (fun _ _ _ => by simp))).mono ?_
  rintro e w1 ⟨rfl, hC, hR⟩
  rw [← HT.out]
  have hb1 := hp_chg (W := w.drew) HBX.out hC (by simp; omega)
  have hm1 := (HM.out.drewN 1).take hC hR
  have hC1 : Chg S w w1 := ((Chg.refl S w).drew).trans (hC.mono (by simpa using hglS))
  have k2 := hp_cell (j := 2) hb1 rfl
  have k3 := hp_cell (j := 3) hb1 rfl
  have k4 := hp_cell (j := 4) hb1 rfl
  have k5 := hp_cell (j := 5) hb1 rfl
  have k6 := hp_cell (j := 6) hb1 rfl
  have k9 := hp_cell (j := 9) hb1 rfl
  have ff := fun j => hp_froz hb1 j
  have HM1 := Lib.hid hm1
  have HB1 := Lib.hid hb1
  have HC1 := Lib.hid hC1
  clear hC hR hb1 hm1 hC1 c0 c3 c7 HR HM HBX
  have n1 : ((c : Int) == (cl : Int)) = false := by rw [beq_eq_false_iff_ne]; omega
  have n2 : (c == cl) = false := by rw [beq_eq_false_iff_ne]; omega
  have n3 : ((c : Int) == (cl : Int) + 1) = false := by rw [beq_eq_false_iff_ne]; omega
  go_wp2_with (first | (go_at_call 43; refine (clear_c g 2 sz cl hs hcl _ k2).mono ?_; rintro e w' ⟨rfl, rfl⟩))
  refine (first_yes g gl A n cap b most sz cl hcl hs hc4 (p + wd) wd nx vt _ vo (-1) false er t [] o S c hc _ HB1.out HM1.out).mono ?_
  rintro e w2 ⟨rfl, vw', hb2, hm2, hC2⟩
  have HM2 := Lib.hid hm2
  have HB2 := Lib.hid hb2
  have HC2 := Lib.hid hC2
  clear hb2 hm2 hC2
  go_wp2
  go_end0
  exact ⟨rfl, vw', HB2.out, HM2.out, HC1.out.trans HC2.out⟩
set_option maxRecDepth 100000 in
set_option maxHeartbeats 2000000 in
theorem one_bad1 (g gl : Nat) (A : Option Addr) (n cap : Nat) (b : Nat → Nat) (hbt : ∀ i, b i < 256) (most sz cl : Nat) (hcl : Hid (cl = 2 ^ sz)) (hs : sz ≤ 8) (hc4 : 4 ≤ cl ∧ cl ≤ 256) (p wd nx : Nat) (vt vw vo : Value) (lc : Int) (er : Int) (t : List (Nat × Nat)) (o : List Nat) (S : List Nat)
    (hn : n ≤ 1000000) (hp : p ≤ 8 * n) (hk : p + wd ≤ 8 * n) (hwd : wd ≤ 12) (c : Nat) (hT : c = takeL b p wd) (hc : ¬ c < cl) (hc0 : c ≠ cl) (hc1 : c ≠ cl + 1) (hlc : lc = -1) (w : World)
    (hb : LzBox g gl most sz wd nx vt lc vw vo false er w) (hm : LzMem g gl A n cap b p vt vw vo t [] o S w) :
    Calls Try.prog 83 #[.pointer (some ⟨g, 0, none⟩)] w fun e w' => PanE 4 e ∧ LzBox g gl most sz wd nx vt lc vw vo false er w' ∧ LzMem g gl A n cap b (p + wd) vt vw vo t [] o S w' ∧ Chg S w w' := by
  have hask : askB (wd : Nat) (8 * n - p) = true := by unfold askB; simp; omega
  obtain ⟨Aw, cw, rfl, q1, q2, q3, q4, q5⟩ := hm.wts
  have hb' : w.heap[g]? = _ := hb
  have c0 := hp_cell (j := 0) hb' rfl
  have c3 := hp_cell (j := 3) hb' rfl
  have c7 := hp_cell (j := 7) hb' rfl
  have hgl := hm.glg
  have HR := Lib.hid hm.rd
  have HM := Lib.hid hm
  have HBX := Lib.hid hb'
  have hglS := hm.s2
  have hgS := hm.s1
  have HT := Lib.hid hT
  clear hT
  subst hlc
  clear hb hb' hm q4 q5
  go_enter Try.func83, Try.ntmps83
  go_wp2_with fail
  go_still_tail 9, (by kernel_rfl)
  change wpList _ _ _ _ _ w.drew
  go_wp2_with fail
  refine (takeL_yes gl A n cap b p _ _ hn hp hbt wd hask _ (HR.out.chg ((Chg.refl [] w).drew) (by simp) (fun _ _ _ => by simp))).mono ?_
  rintro e w1 ⟨rfl, hC, hR⟩
  rw [← HT.out]
  have hb1 := hp_chg (W := w.drew) HBX.out hC (by simp; omega)
  have hm1 := (HM.out.drewN 1).take hC hR
  have hC1 : Chg S w w1 := ((Chg.refl S w).drew).trans (hC.mono (by simpa using hglS))
  have k2 := hp_cell (j := 2) hb1 rfl
  have k3 := hp_cell (j := 3) hb1 rfl
  have k4 := hp_cell (j := 4) hb1 rfl
  have k5 := hp_cell (j := 5) hb1 rfl
  have k6 := hp_cell (j := 6) hb1 rfl
  have k9 := hp_cell (j := 9) hb1 rfl
  have ff := fun j => hp_froz hb1 j
  have HM1 := Lib.hid hm1
  have HB1 := Lib.hid hb1
  have HC1 := Lib.hid hC1
  clear hC hR hb1 hm1 hC1 c0 c3 c7 HR HM HBX
  have n1 : ((c : Int) == (cl : Int)) = false := by rw [beq_eq_false_iff_ne]; omega
  have n2 : (c == cl) = false := by rw [beq_eq_false_iff_ne]; omega
  have n3 : ((c : Int) == (cl : Int) + 1) = false := by rw [beq_eq_false_iff_ne]; omega
  go_wp2_with (first | (go_at_call 43; refine (clear_c g 2 sz cl hs hcl _ k2).mono ?_; rintro e w' ⟨rfl, rfl⟩))
  refine (first_no g gl most sz cl hcl hs p wd nx vt _ vo (-1) false er c hc _ HB1.out).mono ?_
  rintro e w2 ⟨rfl, rfl⟩
  go_wp2
  exact ⟨rfl, rfl, HB1.out, HM1.out, HC1.out⟩
set_option maxRecDepth 100000 in
set_option maxHeartbeats 2000000 in
theorem one_further (g gl : Nat) (A : Option Addr) (n cap : Nat) (b : Nat → Nat) (hbt : ∀ i, b i < 256) (most sz cl : Nat) (hcl : Hid (cl = 2 ^ sz)) (hs : sz ≤ 8) (hc4 : 4 ≤ cl ∧ cl ≤ 256) (p wd nx : Nat) (vt vw vo : Value) (lc : Nat) (er : Int) (t : List (Nat × Nat)) (o : List Nat) (S : List Nat)
    (hn : n ≤ 1000000) (hp : p ≤ 8 * n) (hk : p + wd ≤ 8 * n) (hwd : wd ≤ 12) (c : Nat) (hT : c = takeL b p wd) (hc0 : c ≠ cl) (hc1 : c ≠ cl + 1) (rows : List (List Nat)) (L l0 : List Nat) (hnx : Hid (nx = cl + 2 + rows.length)) (hfull : nx ≤ 4096) (hT2 : TabOk cl rows t) (hl0 : rowOf cl rows lc = some l0) (hl0l : l0.length ≤ 4999) (hl0p : 0 < l0.length) (hc : (c < nx ∧ rowOf cl rows c = some L) ∨ (c = nx ∧ c < 4096 ∧ L = l0 ++ [l0.headD 0])) (hLl : L.length ≤ 5000) (hLp : 0 < L.length) (h256 : ∀ x ∈ L, x < 256) (hlc : lc < 4096) (w : World)
    (hb : LzBox g gl most sz wd nx vt lc vw vo false er w) (hm : LzMem g gl A n cap b p vt vw vo t [] o S w) :
    Calls Try.prog 83 #[.pointer (some ⟨g, 0, none⟩)] w fun e w' => e = .returned (.tuple #[]) ∧ ∃ vt' vw' t' S', (nx < 4096 → t' = t ++ [(lc, L.headD 0)]) ∧ (¬ nx < 4096 → t' = t) ∧ LzBox g gl most sz (growB wd nx) (growN nx) vt' (c : Nat) vw' vo false er w' ∧ LzMem g gl A n cap b (p + wd) vt' vw' vo t' L o S' w' ∧ More S S' w ∧ Chg S w w' := by
  have hask : askB (wd : Nat) (8 * n - p) = true := by unfold askB; simp; omega
  obtain ⟨Aw, cw, rfl, q1, q2, q3, q4, q5⟩ := hm.wts
  have hb' : w.heap[g]? = _ := hb
  have c0 := hp_cell (j := 0) hb' rfl
  have c3 := hp_cell (j := 3) hb' rfl
  have c7 := hp_cell (j := 7) hb' rfl
  have hgl := hm.glg
  have HR := Lib.hid hm.rd
  have HM := Lib.hid hm
  have HBX := Lib.hid hb'
  have hglS := hm.s2
  have hgS := hm.s1
  have HT := Lib.hid hT
  clear hT
  clear hb hb' hm q4 q5
  go_enter Try.func83, Try.ntmps83
  go_wp2_with fail
  go_still_tail 9, (by kernel_rfl)
  change wpList _ _ _ _ _ w.drew
  go_wp2_with fail
  refine (takeL_yes gl A n cap b p _ _ hn hp hbt wd hask _ (HR.out.chg ((Chg.refl [] w).drew) (by simp) (fun _ _ _ => by simp))).mono ?_
  rintro e w1 ⟨rfl, hC, hR⟩
  rw [← HT.out]
  have hb1 := hp_chg (W := w.drew) HBX.out hC (by simp; omega)
  have hm1 := (HM.out.drewN 1).take hC hR
  have hC1 : Chg S w w1 := ((Chg.refl S w).drew).trans (hC.mono (by simpa using hglS))
  have k2 := hp_cell (j := 2) hb1 rfl
  have k3 := hp_cell (j := 3) hb1 rfl
  have k4 := hp_cell (j := 4) hb1 rfl
  have k5 := hp_cell (j := 5) hb1 rfl
  have k6 := hp_cell (j := 6) hb1 rfl
  have k9 := hp_cell (j := 9) hb1 rfl
  have ff := fun j => hp_froz hb1 j
  have HM1 := Lib.hid hm1
  have HB1 := Lib.hid hb1
  have HC1 := Lib.hid hC1
  clear hC hR hb1 hm1 hC1 c0 c3 c7 HR HM HBX
  have n1 : ((c : Int) == (cl : Int)) = false := by rw [beq_eq_false_iff_ne]; omega
  have n2 : (c == cl) = false := by rw [beq_eq_false_iff_ne]; omega
  have n3 : ((c : Int) == (cl : Int) + 1) = false := by rw [beq_eq_false_iff_ne]; omega
  have n4 : ((lc : Int) == -1) = false := by rw [beq_eq_false_iff_ne]; omega
  have HC := Lib.hid hc
  have HL0 := Lib.hid hl0
  clear hc hl0
  go_wp2_with (first | (go_at_call 43; refine (clear_c g 2 sz cl hs hcl _ k2).mono ?_; rintro e w' ⟨rfl, rfl⟩))
  refine (further_yes g gl A n cap b most sz cl hcl hs hc4 (p + wd) wd nx vt _ vo lc false er rows t [] o S c L l0 hnx hfull hwd hT2 HL0.out hl0l hl0p HC.out hLl hLp h256 hlc _ HB1.out HM1.out).mono ?_
  rintro e w2 ⟨rfl, vt', vw', t', S', ht1, ht2, hb2, hm2, hMo, hC2⟩
  have HM2 := Lib.hid hm2
  have HB2 := Lib.hid hb2
  have HC2 := Lib.hid hC2
  have HMo : Hid (More S S' w) := Lib.hid (fun k hk => by
    rcases hMo k hk with h9 | h9
    · exact .inl h9
    · exact .inr (Nat.le_trans HC1.out.size h9))
  have H1 := Lib.hid ht1
  have H2 := Lib.hid ht2
  clear hb2 hm2 hC2 hMo ht1 ht2
  go_wp2
  go_end0
  exact ⟨rfl, vt', vw', t', S', H1.out, H2.out, HB2.out, HM2.out, HMo.out, HC1.out.trans HC2.out⟩
set_option maxRecDepth 100000 in
set_option maxHeartbeats 2000000 in
theorem one_bad2 (g gl : Nat) (A : Option Addr) (n cap : Nat) (b : Nat → Nat) (hbt : ∀ i, b i < 256) (most sz cl : Nat) (hcl : Hid (cl = 2 ^ sz)) (hs : sz ≤ 8) (hc4 : 4 ≤ cl ∧ cl ≤ 256) (p wd nx : Nat) (vt vw vo : Value) (lc : Nat) (er : Int) (t : List (Nat × Nat)) (o : List Nat) (S : List Nat)
    (hn : n ≤ 1000000) (hp : p ≤ 8 * n) (hk : p + wd ≤ 8 * n) (hwd : wd ≤ 12) (c : Nat) (hT : c = takeL b p wd) (hc : nx < c)  (hnx2 : cl + 2 ≤ nx) (w : World)
    (hb : LzBox g gl most sz wd nx vt lc vw vo false er w) (hm : LzMem g gl A n cap b p vt vw vo t [] o S w) :
    Calls Try.prog 83 #[.pointer (some ⟨g, 0, none⟩)] w fun e w' => PanE 4 e ∧ LzBox g gl most sz wd nx vt lc vw vo false er w' ∧ LzMem g gl A n cap b (p + wd) vt vw vo t [] o S w' ∧ Chg S w w' := by
  have hask : askB (wd : Nat) (8 * n - p) = true := by unfold askB; simp; omega
  obtain ⟨Aw, cw, rfl, q1, q2, q3, q4, q5⟩ := hm.wts
  have hb' : w.heap[g]? = _ := hb
  have c0 := hp_cell (j := 0) hb' rfl
  have c3 := hp_cell (j := 3) hb' rfl
  have c7 := hp_cell (j := 7) hb' rfl
  have hgl := hm.glg
  have HR := Lib.hid hm.rd
  have HM := Lib.hid hm
  have HBX := Lib.hid hb'
  have hglS := hm.s2
  have hgS := hm.s1
  have HT := Lib.hid hT
  clear hT
  have hc0 : c ≠ cl := by omega
  have hc1 : c ≠ cl + 1 := by omega
  clear hb hb' hm q4 q5
  go_enter Try.func83, Try.ntmps83
  go_wp2_with fail
  go_still_tail 9, (by kernel_rfl)
  change wpList _ _ _ _ _ w.drew
  go_wp2_with fail
  refine (takeL_yes gl A n cap b p _ _ hn hp hbt wd hask _ (HR.out.chg ((Chg.refl [] w).drew) (by simp) (fun _ _ _ => by simp))).mono ?_
  rintro e w1 ⟨rfl, hC, hR⟩
  rw [← HT.out]
  have hb1 := hp_chg (W := w.drew) HBX.out hC (by simp; omega)
  have hm1 := (HM.out.drewN 1).take hC hR
  have hC1 : Chg S w w1 := ((Chg.refl S w).drew).trans (hC.mono (by simpa using hglS))
  have k2 := hp_cell (j := 2) hb1 rfl
  have k3 := hp_cell (j := 3) hb1 rfl
  have k4 := hp_cell (j := 4) hb1 rfl
  have k5 := hp_cell (j := 5) hb1 rfl
  have k6 := hp_cell (j := 6) hb1 rfl
  have k9 := hp_cell (j := 9) hb1 rfl
  have ff := fun j => hp_froz hb1 j
  have HM1 := Lib.hid hm1
  have HB1 := Lib.hid hb1
  have HC1 := Lib.hid hC1
  clear hC hR hb1 hm1 hC1 c0 c3 c7 HR HM HBX
  have n1 : ((c : Int) == (cl : Int)) = false := by rw [beq_eq_false_iff_ne]; omega
  have n2 : (c == cl) = false := by rw [beq_eq_false_iff_ne]; omega
  have n3 : ((c : Int) == (cl : Int) + 1) = false := by rw [beq_eq_false_iff_ne]; omega
  have n4 : ((lc : Int) == -1) = false := by rw [beq_eq_false_iff_ne]; omega
  go_wp2_with (first | (go_at_call 43; refine (clear_c g 2 sz cl hs hcl _ k2).mono ?_; rintro e w' ⟨rfl, rfl⟩))
  refine (further_no g gl most sz wd nx vt _ vo lc false er c hc _ HB1.out).mono ?_
  rintro e w2 ⟨rfl, rfl⟩
  go_wp2
  exact ⟨rfl, rfl, HB1.out, HM1.out, HC1.out⟩
end Go.Proofs.Ytlgoohhfpmomhaa

namespace Go.Proofs.Ytlgoohhfpmomhaa
set_option maxRecDepth 100000
set_option linter.unusedVariables false
open Go.ChangeShapes Go.WideShapes Go.ChangeAt Go.RowKit

/-- What the codes come to from where a reader stands. -/
def Gon (b : Nat → Nat) (n cl sz most : Nat) (r : List Nat × Nat) (s : Cz) (wt : List Nat) : Prop :=
  ∃ k, 8 * n - s.p < k ∧ ((most < s.out.length + wt.length ∧ r = ([], 6)) ∨ (s.out.length + wt.length ≤ most ∧ finC b n cl sz most k ⟨s.p, s.wd, s.rows, s.last, s.out ++ wt⟩ = r))
def mz (n : Nat) (s : Cz) (wt : List Nat) (en : Bool) : Nat := (8 * n - s.p) * 5000 + wt.length + (if en = true then 0 else 1)
/-- A reader lies in memory. -/
def LzS (g gl : Nat) (A : Option Addr) (n cap : Nat) (b : Nat → Nat) (most sz cl : Nat) (s : Cz) (wt : List Nat) (en : Bool) (er : Int) (S : List Nat) (w : World) : Prop :=
  (∃ vt vw vo lc t, LzBox g gl most sz s.wd (cl + 2 + s.rows.length) vt lc vw vo en er w ∧ LzMem g gl A n cap b s.p vt vw vo t wt s.out S w ∧ LzPu n cl sz s lc t) ∧ ∀ x ∈ wt, x < 256
def Thrown (e : Ending) (r : List Nat × Nat) : Prop := (StopE e ∧ r = ([], 2)) ∨ (∃ k : Nat, PanE (k : Nat) e ∧ r = ([], k) ∧ 0 < k)
/-- What a step leaves. -/
def OneP (g gl : Nat) (A : Option Addr) (n cap : Nat) (b : Nat → Nat) (most sz cl : Nat) (r : List Nat × Nat) (s : Cz) (wt : List Nat) (S : List Nat) (w : World) (e : Ending) (w' : World) : Prop :=
  ∃ S' s' wt', More S S' w ∧ Chg S w w' ∧ ((e = .returned (.tuple #[]) ∧ ∃ en', LzS g gl A n cap b most sz cl s' wt' en' 0 S' w' ∧ (en' = true → r = (s'.out, 0)) ∧ (en' = false → Gon b n cl sz most r s' wt') ∧
    mz n s' wt' en' < mz n s wt false ∧ s.out.length ≤ s'.out.length ∧ s'.out.length ≤ s.out.length + 1 ∧ s'.out.length ≤ most) ∨ (Thrown e r ∧ LzS g gl A n cap b most sz cl s' wt' false 0 S' w'))
theorem LzS.drewN {g gl : Nat} {A : Option Addr} {n cap : Nat} {b : Nat → Nat} {most sz cl : Nat} {s : Cz} {wt : List Nat} {en : Bool} {er : Int} {S : List Nat} {w : World} (h : LzS g gl A n cap b most sz cl s wt en er S w) (k : Nat) : LzS g gl A n cap b most sz cl s wt en er S (w.drewN k) := by
  obtain ⟨⟨vt, vw, vo, lc, t, hb, hm, hp⟩, h2⟩ := h
  exact ⟨⟨vt, vw, vo, lc, t, hb, hm.drewN k, hp⟩, h2⟩
theorem LzS.below {g gl : Nat} {A : Option Addr} {n cap : Nat} {b : Nat → Nat} {most sz cl : Nat} {s : Cz} {wt : List Nat} {en : Bool} {er : Int} {S : List Nat} {w w' : World} (h : LzS g gl A n cap b most sz cl s wt en er S w) (hb : Below w.heap.size w w') : LzS g gl A n cap b most sz cl s wt en er S w' := by
  obtain ⟨⟨vt, vw, vo, lc, t, hx, hm, hp⟩, h2⟩ := h
  exact ⟨⟨vt, vw, vo, lc, t, hp_below hx hb hm.gs, hm.below hb, hp⟩, h2⟩
section
variable {g gl : Nat} {A : Option Addr} {n cap : Nat} {b : Nat → Nat} {most sz cl : Nat} {s : Cz} {wt : List Nat} {S : List Nat} {w : World} {r : List Nat × Nat}
theorem GoodC.emit (h : GoodC n cl sz s) {x : Nat} (hx : x < 256) : GoodC n cl sz ⟨s.p, s.wd, s.rows, s.last, s.out ++ [x]⟩ :=
  ⟨h.clv, h.sz2, h.sz8, h.wd1, h.wd2, h.p, h.full, h.rows, h.last, h.none, fun v hv => by
    have hv' : v ∈ s.out ++ [x] := hv
    rcases List.mem_append.1 hv' with h1 | h1
    · exact h.out v h1
    · rw [List.mem_singleton.1 h1]; exact hx⟩
theorem takeL_lt12 (p k : Nat) (hk : k ≤ 12) : takeL b p k < 4096 := Nat.lt_of_lt_of_le (takeL_lt b p k) (pow12 hk)
theorem row_le {cl sz : Nat} (h : GoodC n cl sz s) (c : Nat) (hc : c ≠ cl) (hc1 : c ≠ cl + 1) (hb : badC cl s.rows s.last c = false) : 0 < (rowC cl s.rows s.last c).length ∧ (rowC cl s.rows s.last c).length ≤ 4900 ∧ ∀ x ∈ rowC cl s.rows s.last c, x < 256 := by
  have h1 := (rowC_ok h c hc hc1 hb).1
  have h2 := h.full
  have h3 := h1.1
  refine ⟨?_, by have := h1.2.1; omega, h1.2.2⟩
  cases hh : rowC cl s.rows s.last c with
  | nil => exact absurd hh h3
  | cons a q => simp
theorem mz_step {p q l m : Nat} (h1 : p + 3 ≤ q) (h2 : q ≤ 8 * n) (hl : l ≤ 4900) (x : Nat) (hx : x ≤ 1) : (8 * n - q) * 5000 + l + x < (8 * n - p) * 5000 + m + 1 := by
  have h3 : 8 * n - q + 3 ≤ 8 * n - p := by omega
  have h4 := Nat.mul_le_mul_right 5000 h3
  omega
set_option maxHeartbeats 1000000 in
theorem one_any (hbt : ∀ i, b i < 256) (hn : n ≤ 1000000) (hmost : most ≤ 1000000) (hom : s.out.length ≤ most) (hg : Gon b n cl sz most r s wt) (h : LzS g gl A n cap b most sz cl s wt false 0 S w) :
    Calls Try.prog 83 #[.pointer (some ⟨g, 0, none⟩)] w (OneP g gl A n cap b most sz cl r s wt S w) := by
  obtain ⟨⟨vt, vw, vo, lc, t, hb, hm, hp⟩, h256⟩ := h
  have hgd := hp.good
  have hclb := cl_le hgd
  have hsz := hgd.sz8
  have hcl := Lib.hid hgd.clv
  have hwd1 := hgd.wd1
  have hwd2 := hgd.wd2
  have hpp := hgd.p
  obtain ⟨k, hk, hgo⟩ := hg
  cases wt with
  | cons x wr =>
    by_cases ho : s.out.length < most
    · refine (emit_yes g gl A n cap b most sz s.p s.wd _ vt vw vo lc 0 t x wr s.out S hmost ho w hb hm).mono ?_
      rintro e w' ⟨rfl, vw', vo', S', hb', hm', hMo, hC⟩
      refine ⟨S', ⟨s.p, s.wd, s.rows, s.last, s.out ++ [x]⟩, wr, hMo, hC, .inl ⟨rfl, false, ⟨⟨vt, vw', vo', lc, t, hb', hm', ⟨hgd.emit (h256 x (by simp)), hp.tb, hp.l0, hp.l1⟩⟩, fun y hy => h256 y (by simp [hy])⟩, (fun h => by cases h), fun _ => ⟨k, hk, ?_⟩, ?_, by simp, by simp, by simp; omega⟩⟩
      · rcases hgo with ⟨h1, h2⟩ | ⟨h1, h2⟩
        · refine .inl ⟨?_, h2⟩
          simp at h1 ⊢
          omega
        · refine .inr ⟨?_, ?_⟩
          · simp at h1 ⊢
            omega
          · rw [← h2]
            simp
      · simp [mz]
    · refine (emit_no g gl A n cap b most sz s.p s.wd _ vt vw vo lc 0 t (x :: wr) s.out S hmost (by omega) (by simp) w hb hm).mono ?_
      rintro e w' ⟨hPe, m, rfl⟩
      refine ⟨S, s, x :: wr, More.refl _ _, (Chg.refl S w).drewN m, .inr ⟨.inr ⟨6, hPe, ?_, by omega⟩, LzS.drewN ⟨⟨vt, vw, vo, lc, t, hb, hm, hp⟩, h256⟩ m⟩⟩
      rcases hgo with ⟨h1, h2⟩ | ⟨h1, h2⟩
      · exact h2
      · simp at h1
        omega
  | nil =>
    have hfin : finC b n cl sz most k s = r := by
      rcases hgo with ⟨h1, h2⟩ | ⟨h1, h2⟩
      · simp at h1
        omega
      · simpa using h2
    clear hgo
    obtain ⟨k, rfl⟩ : ∃ j, k = j + 1 := ⟨k - 1, by omega⟩
    rw [finC] at hfin
    by_cases he : 8 * n < s.p + s.wd
    · rw [if_pos he] at hfin
      refine (one_end g gl A n cap b most sz s.p s.wd _ vt vw vo lc 0 t s.out S hn hpp he hwd2 w hb hm).mono ?_
      rintro e w' ⟨hSe, m, rfl⟩
      exact ⟨S, s, [], More.refl _ _, (Chg.refl S w).drewN m, .inr ⟨.inl ⟨hSe, hfin.symm⟩, LzS.drewN ⟨⟨vt, vw, vo, lc, t, hb, hm, hp⟩, h256⟩ m⟩⟩
    · rw [if_neg he] at hfin
      have hle : s.p + s.wd ≤ 8 * n := by omega
      obtain ⟨c, hc⟩ : ∃ c, c = takeL b s.p s.wd := ⟨_, rfl⟩
      have hc4 : c < 4096 := by rw [hc]; exact takeL_lt12 _ _ hwd2
      rw [← hc] at hfin
      by_cases e1 : c = cl
      · rw [if_pos e1] at hfin
        refine (one_reset g gl A n cap b hbt most sz cl hcl hsz hclb s.p s.wd _ vt vw vo lc 0 t s.out S hn hpp hle hwd2 c hc e1 w hb hm).mono ?_
        rintro e w' ⟨rfl, vw', hb', hm', hC⟩
        refine ⟨S, s.reset sz, [], More.refl _ _, hC, .inl ⟨rfl, false, ⟨⟨_, vw', vo, _, [], hb', hm', hp.reset hle⟩, by simp⟩, (fun h => by cases h), fun _ => ⟨k, ?_, .inr ⟨?_, ?_⟩⟩, ?_, Nat.le_refl _, Nat.le_succ _, hom⟩⟩
        · show 8 * n - (s.p + s.wd) < k
          omega
        · simpa [Cz.reset] using hom
        · rw [← hfin]
          simp [Cz.reset]
        · exact mz_step (p := s.p) (by show s.p + 3 ≤ s.p + s.wd; omega) hle (by simp) _ (by simp)
      · rw [if_neg e1] at hfin
        by_cases e2 : c = cl + 1
        · rw [if_pos e2] at hfin
          refine (one_fin g gl A n cap b hbt most sz cl hcl hsz hclb s.p s.wd _ vt vw vo lc 0 t s.out S hn hpp hle hwd2 c hc e2 w hb hm).mono ?_
          rintro e w' ⟨rfl, hb', hm', hC⟩
          exact ⟨S, s.on, [], More.refl _ _, hC, .inl ⟨rfl, true, ⟨⟨vt, vw, vo, lc, t, hb', hm', hp.on hle⟩, by simp⟩, fun _ => hfin.symm, fun h => by (cases h), mz_step (p := s.p) (by show s.p + 3 ≤ s.p + s.wd; omega) hle (by simp) _ (by simp), Nat.le_refl _, Nat.le_succ _, hom⟩⟩
        · rw [if_neg e2] at hfin
          by_cases e3 : badC cl s.rows s.last c = true
          · rw [if_pos e3] at hfin
            have e3' := e3
            unfold badC at e3'
            cases hl : s.last with
            | none =>
              rw [hl] at e3'
              simp at e3'
              refine (one_bad1 g gl A n cap b hbt most sz cl hcl hsz hclb s.p s.wd _ vt vw vo lc 0 t s.out S hn hpp hle hwd2 c hc (by omega) e1 e2 (hp.l0 hl) w hb hm).mono ?_
              rintro e w' ⟨hPe, hb', hm', hC⟩
              exact ⟨S, s.on, [], More.refl _ _, hC, .inr ⟨.inr ⟨4, hPe, hfin.symm, by omega⟩, ⟨⟨vt, vw, vo, lc, t, hb', hm', hp.on hle⟩, by simp⟩⟩⟩
            | some l0 =>
              rw [hl] at e3'
              simp at e3'
              obtain ⟨lk, hlk, _, _⟩ := hp.l1 l0 hl
              subst hlk
              refine (one_bad2 g gl A n cap b hbt most sz cl hcl hsz hclb s.p s.wd _ vt vw vo lk 0 t s.out S hn hpp hle hwd2 c hc (by omega) (by omega) w hb hm).mono ?_
              rintro e w' ⟨hPe, hb', hm', hC⟩
              exact ⟨S, s.on, [], More.refl _ _, hC, .inr ⟨.inr ⟨4, hPe, hfin.symm, by omega⟩, ⟨⟨vt, vw, vo, lk, t, hb', hm', hp.on hle⟩, by simp⟩⟩⟩
          · have e3' : badC cl s.rows s.last c = false := by simpa using e3
            rw [if_neg e3] at hfin
            have hrl := row_le hgd c e1 e2 e3'
            have hgn : Gon b n cl sz most r (s.stepQ cl (rowC cl s.rows s.last c)) (rowC cl s.rows s.last c) := by
              refine ⟨k, ?_, ?_⟩
              · show 8 * n - (s.p + s.wd) < k
                omega
              · by_cases hm6 : most < s.out.length + (rowC cl s.rows s.last c).length
                · rw [if_pos hm6] at hfin
                  exact .inl ⟨hm6, hfin.symm⟩
                · rw [if_neg hm6] at hfin
                  exact .inr ⟨by show s.out.length + _ ≤ most; omega, hfin⟩
            have hmz : mz n (s.stepQ cl (rowC cl s.rows s.last c)) (rowC cl s.rows s.last c) false < mz n s [] false := mz_step (p := s.p) (by show s.p + 3 ≤ s.p + s.wd; omega) hle hrl.2.1 _ (by simp)
            cases hl : s.last with
            | none =>
              have hlt : c < cl := by
                unfold badC at e3'
                rw [hl] at e3'
                simpa using e3'
              have hr : rowC cl s.rows s.last c = [c] := by unfold rowC; rw [if_pos hlt]
              rw [hr] at hgn hmz
              refine (one_first g gl A n cap b hbt most sz cl hcl hsz hclb s.p s.wd _ vt vw vo lc 0 t s.out S hn hpp hle hwd2 c hc hlt (hp.l0 hl) w hb hm).mono ?_
              rintro e w' ⟨rfl, vw', hb', hm', hC⟩
              have hrows : rowsC cl s.rows s.last [c] = s.rows := by unfold rowsC; rw [hl, if_neg (by simp)]
              have hwide : wideC cl s.wd s.rows s.last = s.wd := by unfold wideC; rw [hl, if_neg (by simp)]
              refine ⟨S, s.stepQ cl [c], [c], More.refl _ _, hC, .inl ⟨rfl, false, ⟨⟨vt, vw', vo, _, t, ?_, hm', hp.first hle c hlt hl⟩, by simp; omega⟩, (fun h => by cases h), fun _ => hgn, hmz, Nat.le_refl _, Nat.le_succ _, hom⟩⟩
              show LzBox g gl most sz (wideC cl s.wd s.rows s.last) (cl + 2 + (rowsC cl s.rows s.last [c]).length) vt (c : Nat) vw' vo false 0 w'
              rw [hrows, hwide]
              exact hb'
            | some l0 =>
              obtain ⟨lk, hlk, hlk2, hlk3⟩ := hp.l1 l0 hl
              subst hlk
              have hl0 := hgd.last l0 hl
              have hfull := hgd.full
              refine (one_further g gl A n cap b hbt most sz cl hcl hsz hclb s.p s.wd (cl + 2 + s.rows.length) vt vw vo lk 0 t s.out S hn hpp hle hwd2 c hc e1 e2 s.rows (rowC cl s.rows s.last c) l0 (Lib.hid rfl) hfull hp.tb hlk3 (by have := hl0.2.1; omega) (by
                cases l0 with
                | nil => exact absurd rfl hl0.1
                | cons a q => simp) (further_pure hp c hc4 e1 e2 e3' l0 hl) (by omega) hrl.1 hrl.2.2 (by omega) w hb hm).mono ?_
              rintro e w' ⟨rfl, vt', vw', t', S', ht1, ht2, hb', hm', hMo, hC⟩
              refine ⟨S', s.stepQ cl (rowC cl s.rows s.last c), rowC cl s.rows s.last c, hMo, hC, .inl ⟨rfl, false, ⟨⟨vt', vw', vo, _, t', ?_, hm', hp.further hle c hc4 e1 e2 e3' l0 hl lk rfl ht1 ht2⟩, hrl.2.2⟩, (fun h => by cases h), fun _ => hgn, hmz, Nat.le_refl _, Nat.le_succ _, hom⟩⟩
              show LzBox g gl most sz (wideC cl s.wd s.rows s.last) (cl + 2 + (rowsC cl s.rows s.last (rowC cl s.rows s.last c)).length) vt' (c : Nat) vw' vo false 0 w'
              rw [growB_eq cl s.wd s.rows l0, growN_eq cl s.rows l0 (rowC cl s.rows s.last c), ← hl] at hb'
              exact hb'
end
end Go.Proofs.Ytlgoohhfpmomhaa
