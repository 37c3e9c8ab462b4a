/- A reader of GIF's codes: one step. -/
import Derived.Test.YtioghgnngdcicaaLzC
namespace Go.Proofs.Ytioghgnngdcicaa
set_option linter.unusedVariables false
open Go.ChangeShapes Go.WideShapes Go.ChangeAt Go.RowKit

theorem elem_u8b : Try.prog.elem 22 = 5 := by kernel_rfl
theorem size_u8b (W : World) : (sizeOf 5).run Try.prog W = .ok 1 W := by kernel_rfl
theorem und_u8b : Try.prog.underlying 22 = some (.slice (Try.prog.elem 22)) := by rw [elem_u8b]; exact Try.underlying22
theorem run_tail1 (A : Option Addr) (n cap : Nat) (hn : 1 ≤ n) (W : World) :
    (Instr.sliceAt 22 (.slice A n cap) (some (.int .i64 1)) none none).run Try.prog W = .ok (.slice (if cap = 1 then A else A.map (·.add 1)) (n - 1) (cap - 1)) W := by
  rw [run_sliceAt_slice _ _ _ _ _ _ und_u8b, run_slice_l W 22 A n cap und_u8b .i64 1 (by omega) (by omega), elem_u8b, size_u8b]
  simp [Result.andThen, sliced]
theorem wts_tail {g : Nat} {vt vo vw : Value} {x : Nat} {r : List Nat} {w : World} {A : Option Addr} {M c : Nat} (he : vw = .slice A M c) (hM : M = (x :: r).length) (h : Wts g vt vo vw (x :: r) w) : Wts g vt vo (.slice (if c = 1 then A else A.map (·.add 1)) (M - 1) (c - 1)) r w := by
  obtain ⟨A', c', h0, h1, h2, hz, hb, ha⟩ := h
  rw [he] at h0
  injection h0 with e1 e2 e3
  subst e1 e3
  have hM1 : M = r.length + 1 := by simpa using hM
  have h1' : r.length + 1 ≤ c := by simpa using h1
  refine ⟨_, c - 1, by rw [hM1]; rfl, by omega, by omega, fun hn => ?_, fun hr => ?_, fun a hA => ?_⟩
  · split at hn
    · omega
    · cases A with
      | none => have := hz rfl; omega
      | some a => cases hn
  · obtain ⟨bk, off, rfl, hlt, hc⟩ := hb (by simp)
    rw [if_neg (by omega)]
    refine ⟨bk, off + 1, rfl, hlt, fun j hj => ?_⟩
    have := hc (j + 1) (by simp; omega)
    rw [show off + 1 + j = off + (j + 1) by omega, this]
    simp [gz]
  · split at hA
    · exact ha a hA
    · cases A with
      | none => cases hA
      | some a0 =>
        simp at hA
        subst hA
        exact ha a0 rfl
theorem slice_if {A : Option Addr} {c m k : Nat} : Value.slice (if c = 1 then A else A.map (·.add 1)) m k = Value.slice (if c = 1 then A else A.map (·.add 1)) m k := rfl
set_option maxRecDepth 100000 in
set_option maxHeartbeats 2000000 in
theorem emit_yes (g gl : Nat) (A : Option Addr) (n cap : Nat) (b : Nat → Nat) (most sz : Nat) (p wd nx : Nat) (vt vw vo : Value) (lc : Int) (er : Int) (t : List (Nat × Nat)) (x : Nat) (r o : List Nat) (S : List Nat) (hmost : most ≤ 1000000) (ho : o.length < most) (w : World)
    (hb : LzBox g gl most sz wd nx vt lc vw vo false er w) (hm : LzMem g gl A n cap b p vt vw vo t (x :: r) o S w) :
    Calls Try.prog 34 #[.pointer (some ⟨g, 0, none⟩)] w fun e w' => e = .returned (.tuple #[]) ∧ ∃ vw' vo' S', LzBox g gl most sz wd nx vt lc vw' vo' false er w' ∧ LzMem g gl A n cap b p vt vw' vo' t r (o ++ [x]) S' w' ∧ More S S' w ∧ Chg S w w' := by
  obtain ⟨i0, hi, hz0, hz1, hz2⟩ := info_parts info8
  obtain ⟨Aw, cw, rfl, q1, q2, q3, q4, q5⟩ := hm.wts
  obtain ⟨_, Ao, co, rfl, s1, s2, _⟩ := Sl.of_own hm.out
  obtain ⟨bw, ow, rfl, hbw, hcw⟩ := q4 (by simp)
  have cx := hcw 0 (by simp)
  have hb' : w.heap[g]? = _ := hb
  obtain ⟨M, hM⟩ : ∃ M, M = (x :: r).length := ⟨_, rfl⟩
  rw [← hM] at hb' hm q1
  have hM1 : 1 ≤ M := by rw [hM]; simp
  have c1 := hp_cell (j := 1) hb' rfl
  have c7 := hp_cell (j := 7) hb' rfl
  have c8 := hp_cell (j := 8) hb' rfl
  have ff := fun j => hp_froz hb' j
  have hgs := hm.gs
  rw [show gz (x :: r) 0 = x from rfl, Nat.add_zero] at cx
  have d1 : decide (most ≤ o.length) = false := by simp; omega
  have HM := Lib.hid hm
  have HBX := Lib.hid hb'
  have HMe := Lib.hid hM
  have HQ5 := Lib.hid (q5 _ rfl)
  clear hb hb' hm hM q4 q5 hcw
  go_enter Try.func34, Try.ntmps34
  go_wp2_with fail
  go_quiet (fail)
  go_wp2_with fail
  obtain ⟨wq, hwq⟩ : ∃ wq, wq = w.drewN nq := ⟨_, rfl⟩
  have hsq : wq.heap.size = w.heap.size := by rw [hwq]; rfl
  have HMq : Hid (LzMem g gl A n cap b p vt (.slice (some ⟨bw, ow, none⟩) M cw) (.slice Ao o.length co) t (x :: r) o S wq) := by rw [hwq]; exact Lib.hid (HM.out.drewN nq)
  have HCq : Hid (Chg S w wq) := by rw [hwq]; exact Lib.hid ((Chg.refl S w).drewN nq)
  have HBq : Hid (LzBox g gl most sz wd nx vt lc (.slice (some ⟨bw, ow, none⟩) M cw) (.slice Ao o.length co) false er wq) := by rw [hwq]; exact Lib.hid HBX.out
  have cxq : wq.cell? ⟨bw, ow, none⟩ = some (.int .u8 (x : Nat)) := by rw [hwq]; exact cx
  rw [← hwq]
  have HSQ := Lib.hid hsq
  clear hwq hsq c1 c7 c8 ff cx HM HBX
  have hgq : g < wq.heap.size := HMq.out.gs
  have c7 := hp_cell (j := 7) HBq.out rfl
  have c8 := hp_cell (j := 8) HBq.out rfl
  have ff := fun j => hp_froz HBq.out j
  have hA := HMq.out.below ((Below.refl _ wq).alloc (Nat.le_refl _) (.cells #[.int .u8 (x : Nat)] 5)).drew
  have hnw := hp_new0 wq (.cells #[.int .u8 (x : Nat)] 5)
  obtain ⟨vo', w3, hr3, hown3, hgrow3, hat3⟩ := run_app (P := Try.prog) (w := (wq.alloc (.cells #[.int .u8 (x : Nat)] 5)).drew) (g + 1) 22 22 5 i0 (.int .u8 0) 1 1 Try.underlying22 hi hz0 hz1 hz2 rfl (by omega) (.slice Ao o.length co) o.length (cellsB o) hA.out
    (some ⟨wq.heap.size, 0, none⟩) 1 1 [.int .u8 (x : Nat)] (by simp) rfl (fun _ => ⟨_, 0, rfl, fun j u hj => by
      match j, hj with
      | 0, hj => simp at hj; subst hj; exact hp_cell (j := 0) hnw rfl
      | j + 1, hj => simp at hj⟩) (by intro u hu; simp at hu; subst hu; rfl) (by unfold maxLen; omega) (by omega) (by have := HMq.out.gs; simp; omega)
  rw [← cellsB_snoc] at hown3
  replace hown3 := own_len (show o.length + 1 = (o ++ [x]).length by simp) hown3
  obtain ⟨S', hm3, hMo, hC3⟩ := LzMem.newOut (o' := o ++ [x]) (w := (wq.alloc (.cells #[.int .u8 (x : Nat)] 5)).drew) hA hgrow3 hown3 hat3
  obtain ⟨gt, ct, rfl⟩ := own_some hown3 (by simp)
  have hb3 := (hgrow3.block g (by have := HMq.out.gs; simp; omega) (fun e => by have := (HMq.out.out.lt _ e.symm).1; omega)).trans (hp_alloc (.cells #[.int .u8 (x : Nat)] 5) HBq.out)
  have m7 := hp_cell (j := 7) hb3 rfl
  have m8 := hp_cell (j := 8) hb3 rfl
  have mf := fun j => hp_froz hb3 j
  rw [show (o ++ [x]).length = o.length + 1 by simp] at hm3
  have HB3 := Lib.hid hb3
  have HR3 := Lib.hid hr3
  have HM3 := Lib.hid hm3
  have hCx : Chg S w w3 := HCq.out.trans ((((Chg.refl S wq).alloc (.cells #[.int .u8 (x : Nat)] 5)).drew).trans hC3)
  have HCX := Lib.hid hCx
  have hwt := wts_tail rfl HMe.out hm3.wts
  have hwt2 := fun (h : cw = 1) => (show Wts g vt (.slice (some ⟨gt, 0, none⟩) (o.length + 1) ct) (.slice (some ⟨bw, ow, none⟩) 0 0) r w3 by simpa [h, show M - 1 = 0 by omega] using hwt)
  have hwt3 := fun (h : ¬ cw = 1) => (show Wts g vt (.slice (some ⟨gt, 0, none⟩) (o.length + 1) ct) (.slice (some ⟨bw, ow + 1, none⟩) (M - 1) (cw - 1)) r w3 by simpa [h, Addr.add_lit] using hwt)
  have H2 := Lib.hid hwt2
  have H3 := Lib.hid hwt3
  have hMO2 : More S S' w := fun k hk => by
    rcases hMo k hk with h9 | h9
    · exact .inl h9
    · refine .inr ?_
      have h8 : wq.heap.size + 1 ≤ k := by simpa using h9
      have := HSQ.out
      omega
  have HMO := Lib.hid hMO2
  clear hA hr3 hown3 hm3 hMo hC3 hat3 hgrow3 hb3 hnw hCx hwt hwt2 hwt3 hMO2
  by_cases hcw : cw = 1
  · have H4 := Lib.hid (H2.out hcw)
    subst hcw
    clear H2 H3
    go_wp2_with fail
    go_region_law (first | (refine step_app (by rfl) _ _ _ (by rfl) _ _ _ _ (by rfl) (by rfl) HR3.out ?_) | fail)
    all_goals
      go_wp2
      refine bodyPost_ret (v := .tuple #[]) (by simp [results, Try.results34, go_sem]) rfl ?_
      have hc3 : Chg [g] w3 ((w3.setCell ⟨g, 8, none⟩ (.slice (some ⟨gt, 0, none⟩) (o.length + 1) ct)).setCell ⟨g, 7, none⟩ (.slice (some ⟨bw, ow, none⟩) 0 0)) := (((Chg.refl _ w3).set (.inl (by simp)) _ _).set (.inl (by simp)) _ _)
      exact ⟨rfl, _, _, S', heap_set (heap_set HB3.out), (HM3.out.newWts H4.out).setG hc3 (by simp), HMO.out, HCX.out.trans (hc3.mono (by simpa using HMq.out.s1))⟩
  · have H4 := Lib.hid (H3.out hcw)
    clear H2 H3
    go_wp2_with fail
    go_region_law (first | (refine step_app (by rfl) _ _ _ (by rfl) _ _ _ _ (by rfl) (by rfl) HR3.out ?_) | fail)
    all_goals
      go_wp2
      refine bodyPost_ret (v := .tuple #[]) (by simp [results, Try.results34, go_sem]) rfl ?_
      have hc3 : Chg [g] w3 ((w3.setCell ⟨g, 8, none⟩ (.slice (some ⟨gt, 0, none⟩) (o.length + 1) ct)).setCell ⟨g, 7, none⟩ (.slice (some ⟨bw, ow + 1, none⟩) (M - 1) (cw - 1))) := (((Chg.refl _ w3).set (.inl (by simp)) _ _).set (.inl (by simp)) _ _)
      exact ⟨rfl, _, _, S', heap_set (heap_set HB3.out), (HM3.out.newWts H4.out).setG hc3 (by simp), HMO.out, HCX.out.trans (hc3.mono (by simpa using HMq.out.s1))⟩
end Go.Proofs.Ytioghgnngdcicaa
