/- bmpread: step, both bytes (by wip/tools/gen_bsb.py). -/
import Derived.Test.YthgafdbdmemkhaaDoorM13

namespace Go.Proofs.YthgafdbdmemkhaaDoor
set_option maxRecDepth 100000
set_option linter.unusedVariables false
open Go.ChangeShapes Go.WideShapes Go.ChangeAt Go.RowKit

set_option maxRecDepth 100000 in
set_option maxHeartbeats 8000000 in
theorem step_far (g p m cap x y W H : Nat) (A : Option Addr) (cs : Array Value) (d : Nat → Nat) (hd : ∀ i, d i < 256) (hx : x ≤ 512) (hy : y ≤ 100000000) (hp : p < m) (hp2 : p + 1 < m) (hm : m ≤ 262144) (hout : W < x + d p) (w : World) (hR : w.heap[g]? = some (.cells cs 71 (0, 0))) (q0 : cs[0]? = some (.slice A m cap)) (q3 : cs[3]? = some (.int .i64 (W : Nat))) (q4 : cs[4]? = some (.int .i64 (H : Nat))) (q17 : cs[17]? = some (.int .i64 (p : Nat))) (q18 : cs[18]? = some (.int .i64 (x : Nat))) (q19 : cs[19]? = some (.int .i64 (y : Nat))) (hB : Byt w A m d) (hA : ∀ a, A = some a → a.block ≠ g) :
    Calls Tryd.prog 58 #[.pointer (some ⟨g, 0, none⟩)] w fun e w' => PanB 4 e ∧ Chg [g] w w' := by
  have HN := Lib.hid (next_yes g p m cap A cs d hd hp hm w.drew hR q0 q17 (hB.below (Below.refl _ w).drew) hA)
  have HR := Lib.hid hR
  have HB := Lib.hid hB
  have HD := Lib.hid hd
  have H18 := Lib.hid (show (cs.setIfInBounds 17 (.int .i64 ((p + 1 : Nat) : Int)))[18]? = _ from (setB_get (by omega)).trans q18)
  have c18 := hp_cell (j := 18) hR q18
  have J0 := Lib.hid (show ((cs.setIfInBounds 17 (.int .i64 ((p + 1 : Nat) : Int))).setIfInBounds 18 (.int .i64 ((x : Int) + (d p : Int))))[0]? = _ from (setB_get (by omega)).trans ((setB_get (by omega)).trans q0))
  have J17 := Lib.hid (show ((cs.setIfInBounds 17 (.int .i64 ((p + 1 : Nat) : Int))).setIfInBounds 18 (.int .i64 ((x : Int) + (d p : Int))))[17]? = _ from (setB_get (by omega)).trans (setB_same q17))
  have J19 := Lib.hid (show ((cs.setIfInBounds 17 (.int .i64 ((p + 1 : Nat) : Int))).setIfInBounds 18 (.int .i64 ((x : Int) + (d p : Int))))[19]? = _ from (setB_get (by omega)).trans ((setB_get (by omega)).trans q19))
  have K19 := Lib.hid (show (((cs.setIfInBounds 17 (.int .i64 ((p + 1 : Nat) : Int))).setIfInBounds 18 (.int .i64 ((x : Int) + (d p : Int)))).setIfInBounds 17 (.int .i64 ((p + 1 + 1 : Nat) : Int)))[19]? = _ from (setB_get (by omega)).trans ((setB_get (by omega)).trans ((setB_get (by omega)).trans q19)))
  have M3 := Lib.hid (show ((((cs.setIfInBounds 17 (.int .i64 ((p + 1 : Nat) : Int))).setIfInBounds 18 (.int .i64 ((x : Int) + (d p : Int)))).setIfInBounds 17 (.int .i64 ((p + 1 + 1 : Nat) : Int))).setIfInBounds 19 (.int .i64 ((y : Int) + (d (p + 1) : Int))))[3]? = _ from (setB_get (by omega)).trans ((setB_get (by omega)).trans ((setB_get (by omega)).trans ((setB_get (by omega)).trans q3))))
  have M4 := Lib.hid (show ((((cs.setIfInBounds 17 (.int .i64 ((p + 1 : Nat) : Int))).setIfInBounds 18 (.int .i64 ((x : Int) + (d p : Int)))).setIfInBounds 17 (.int .i64 ((p + 1 + 1 : Nat) : Int))).setIfInBounds 19 (.int .i64 ((y : Int) + (d (p + 1) : Int))))[4]? = _ from (setB_get (by omega)).trans ((setB_get (by omega)).trans ((setB_get (by omega)).trans ((setB_get (by omega)).trans q4))))
  have M18 := Lib.hid (show ((((cs.setIfInBounds 17 (.int .i64 ((p + 1 : Nat) : Int))).setIfInBounds 18 (.int .i64 ((x : Int) + (d p : Int)))).setIfInBounds 17 (.int .i64 ((p + 1 + 1 : Nat) : Int))).setIfInBounds 19 (.int .i64 ((y : Int) + (d (p + 1) : Int))))[18]? = _ from (setB_get (by omega)).trans ((setB_get (by omega)).trans (setB_same ((setB_get (by omega)).trans q18))))
  have M19 := Lib.hid (show ((((cs.setIfInBounds 17 (.int .i64 ((p + 1 : Nat) : Int))).setIfInBounds 18 (.int .i64 ((x : Int) + (d p : Int)))).setIfInBounds 17 (.int .i64 ((p + 1 + 1 : Nat) : Int))).setIfInBounds 19 (.int .i64 ((y : Int) + (d (p + 1) : Int))))[19]? = _ from setB_same ((setB_get (by omega)).trans ((setB_get (by omega)).trans ((setB_get (by omega)).trans q19))))
  have hdp := hd p
  have hdq := hd (p + 1)
  obtain ⟨dp, hdpe⟩ : ∃ dp, dp = d p := ⟨_, rfl⟩
  obtain ⟨dq, hdqe⟩ : ∃ dq, dq = d (p + 1) := ⟨_, rfl⟩
  have HQ := Lib.hid hdqe.symm
  rw [← hdpe] at HN hdp J0 J17 J19 K19 M3 M4 M18 M19
  rw [← hdqe] at hdq M3 M4 M18 M19
  rw [← hdpe] at hout
  try rw [← hdqe] at hout
  have xw : IntKind.i64.wrap ((x : Int) + (dp : Int)) = (x : Int) + (dp : Int) := IntWalk.i64_in _ (by omega)
  have yw : IntKind.i64.wrap ((y : Int) + (dq : Int)) = (y : Int) + (dq : Int) := IntWalk.i64_in _ (by omega)
  have t1 : decide ((x : Int) + (dp : Int) ≤ (W : Int)) = false := by simp; omega
  clear hR hdpe hdqe hd hB hout
  go_enter Tryd.func58, Tryd.ntmps58
  go_upto_region 0 with fail
  refine wp_region_held_drew (S := fun _ => True) (by kernel_rfl) trivial (fun hHeld => ?_)
  refine wpAnyH_take (i := 0) (oi := ⟨some 2, _, _, _, _, _⟩) (v := ?v0q) rfl (by kernel_rfl) (by kernel_rfl) (by kernel_rfl) (fun _ _ _ h => h) (Or.inl ⟨by rfl, ?y0q⟩) hHeld ?r0q
  case y0q => ((intro w hSw); (try dsimp only at hSw); go_simp; try with_reducible rfl)
  try simp only [Act.put, List.setIfInBounds_toArray, List.set_cons_zero, List.set_cons_succ]
  refine wpAnyH_take (i := 1) (oi := ⟨some 3, _, _, _, _, _⟩) (v := ?v1q) rfl (by kernel_rfl) (by kernel_rfl) (by kernel_rfl) (fun _ _ _ h => h) (Or.inl ⟨by rfl, ?y1q⟩) hHeld ?r1q
  case y1q => ((intro w hSw); (try dsimp only at hSw); go_simp; try with_reducible rfl)
  try simp only [Act.put, List.setIfInBounds_toArray, List.set_cons_zero, List.set_cons_succ]
  refine wpAnyH_take (i := 2) (oi := ⟨some 4, _, _, _, _, _⟩) (v := ?v2q) rfl (by kernel_rfl) (by kernel_rfl) (by kernel_rfl) (fun _ _ _ h => h) (Or.inl ⟨by rfl, ?y2q⟩) hHeld ?r2q
  case y2q => ((intro w hSw); (try dsimp only at hSw); go_simp; try with_reducible rfl)
  try simp only [Act.put, List.setIfInBounds_toArray, List.set_cons_zero, List.set_cons_succ]
  refine wpAnyH_take (i := 4) (oi := ⟨some 6, _, _, _, _, _⟩) (v := ?v4q) rfl (by kernel_rfl) (by kernel_rfl) (by kernel_rfl) (fun _ _ _ h => h) (Or.inl ⟨by rfl, ?y4q⟩) hHeld ?r4q
  case y4q => ((intro w hSw); (try dsimp only at hSw); go_simp; try with_reducible rfl)
  try simp only [Act.put, List.setIfInBounds_toArray, List.set_cons_zero, List.set_cons_succ]
  refine wpAnyH_ready (rs := [3, 5]) (by kernel_rfl) (by simp) (AllReadyH.cons (o := ⟨some 5, _, _, _, _, _⟩) rfl (fun K hK => ?_) (AllReadyH.cons (o := ⟨some 7, _, _, _, _, _⟩) rfl (fun K hK => ?_) AllReadyH.nil))
  · go_simp
    refine hK.out _ _ trivial (fun hHeld => ?_)
    clear hK K
    try simp only [Act.put, List.setIfInBounds_toArray, List.set_cons_zero, List.set_cons_succ]
    refine wpAnyH_ready (rs := [5]) (by kernel_rfl) (by simp) (AllReadyH.cons (o := ⟨some 7, _, _, _, _, _⟩) rfl (fun K hK => ?_) AllReadyH.nil)
    go_simp
    refine HN.out.mono ?_
    rintro e w1 ⟨rfl, k, rfl⟩
    have hR1 := Lib.hid (show ((w.drew.setCell ⟨g, 17, none⟩ (.int .i64 ((p + 1 : Nat) : Int))).drewN k).heap[g]? = _ from heap_set HR.out)
    have hC1 := Lib.hid (show Chg [g] w ((w.drew.setCell ⟨g, 17, none⟩ (.int .i64 ((p + 1 : Nat) : Int))).drewN k) from ((((Chg.refl [g] w).drew).set (.inl (by simp)) 17 _).drewN k))
    generalize (w.drew.setCell ⟨g, 17, none⟩ (.int .i64 ((p + 1 : Nat) : Int))).drewN k = w1 at *
    have e18 := hp_cell (j := 18) hR1.out H18.out
    have f18 := hp_froz hR1.out 18
    try go_wp2_with fail
    refine hK.out _ _ trivial (fun hHeld => ?_)
    clear hK K
    try simp only [Act.put, List.setIfInBounds_toArray, List.set_cons_zero, List.set_cons_succ]
    refine wpAnyH_take (i := 6) (oi := ⟨some 8, _, _, _, _, _⟩) (v := ?v6qa) rfl (by kernel_rfl) (by kernel_rfl) (by kernel_rfl) (fun _ _ _ h => h) (Or.inl ⟨by rfl, ?y6qa⟩) hHeld ?r6qa
    case y6qa => ((intro w hSw); (try dsimp only at hSw); go_simp; try with_reducible rfl)
    try simp only [Act.put, List.setIfInBounds_toArray, List.set_cons_zero, List.set_cons_succ]
    refine wpAnyH_take (i := 7) (oi := ⟨some 9, _, _, _, _, _⟩) (v := ?v7qa) rfl (by kernel_rfl) (by kernel_rfl) (by kernel_rfl) (fun _ _ _ h => h) (Or.inl ⟨by rfl, ?y7qa⟩) hHeld ?r7qa
    case y7qa => ((intro w hSw); (try dsimp only at hSw); go_simp; try with_reducible rfl)
    try simp only [Act.put, List.setIfInBounds_toArray, List.set_cons_zero, List.set_cons_succ]
    refine wpAnyH_take (i := 8) (oi := ⟨some 10, _, _, _, _, _⟩) (v := ?v8qa) rfl (by kernel_rfl) (by kernel_rfl) (by kernel_rfl) (fun _ _ _ h => h) (Or.inl ⟨by rfl, ?y8qa⟩) hHeld ?r8qa
    case y8qa => ((intro w hSw); (try dsimp only at hSw); go_simp; try with_reducible rfl)
    try simp only [Act.put, List.setIfInBounds_toArray, List.set_cons_zero, List.set_cons_succ]
    refine wpAnyH_ready (rs := [9]) (by kernel_rfl) (by simp) (AllReadyH.cons (o := ⟨none, _, _, _, _, _⟩) rfl (fun K hK => ?_) AllReadyH.nil)
    go_simp
    refine hK.out _ _ trivial (fun hHeld => ?_)
    clear hK K
    try simp only [Act.put, List.setIfInBounds_toArray, List.set_cons_zero, List.set_cons_succ]
    refine wpAnyH_done (by kernel_rfl) ?_ _
    have hR2 := heap_set (i := 18) (x := .int .i64 ((x : Int) + (dp : Int))) hR1.out
    have HC2 := Lib.hid (hC1.out.set (g := g) (.inl (by simp)) 18 (.int .i64 ((x : Int) + (dp : Int))))
    have HR2 := Lib.hid hR2
    clear e18 f18 hR1 hC1 hR2
    generalize w1.setCell ⟨g, 18, none⟩ (.int .i64 ((x : Int) + (dp : Int))) = w2 at *
    have c19 := hp_cell (j := 19) HR2.out J19.out
    have HN2 := Lib.hid (next_yes g (p + 1) m cap A _ d HD.out hp2 hm w2.drew HR2.out J0.out J17.out (HB.out.chg (S := [g]) HC2.out.drew (fun _ a ha => by simp; exact hA a ha)) hA)
    rw [HQ.out] at HN2
    go_upto_region 1 with fail
    refine wp_region_held_drew (S := fun _ => True) (by kernel_rfl) trivial (fun hHeld => ?_)
    refine wpAnyH_take (i := 0) (oi := ⟨some 11, _, _, _, _, _⟩) (v := ?v0qaz) rfl (by kernel_rfl) (by kernel_rfl) (by kernel_rfl) (fun _ _ _ h => h) (Or.inl ⟨by rfl, ?y0qaz⟩) hHeld ?r0qaz
    case y0qaz => ((intro w hSw); (try dsimp only at hSw); go_simp; try with_reducible rfl)
    try simp only [Act.put, List.setIfInBounds_toArray, List.set_cons_zero, List.set_cons_succ]
    refine wpAnyH_take (i := 1) (oi := ⟨some 12, _, _, _, _, _⟩) (v := ?v1qaz) rfl (by kernel_rfl) (by kernel_rfl) (by kernel_rfl) (fun _ _ _ h => h) (Or.inl ⟨by rfl, ?y1qaz⟩) hHeld ?r1qaz
    case y1qaz => ((intro w hSw); (try dsimp only at hSw); go_simp; try with_reducible rfl)
    try simp only [Act.put, List.setIfInBounds_toArray, List.set_cons_zero, List.set_cons_succ]
    refine wpAnyH_take (i := 2) (oi := ⟨some 13, _, _, _, _, _⟩) (v := ?v2qaz) rfl (by kernel_rfl) (by kernel_rfl) (by kernel_rfl) (fun _ _ _ h => h) (Or.inl ⟨by rfl, ?y2qaz⟩) hHeld ?r2qaz
    case y2qaz => ((intro w hSw); (try dsimp only at hSw); go_simp; try with_reducible rfl)
    try simp only [Act.put, List.setIfInBounds_toArray, List.set_cons_zero, List.set_cons_succ]
    refine wpAnyH_take (i := 4) (oi := ⟨some 15, _, _, _, _, _⟩) (v := ?v4qaz) rfl (by kernel_rfl) (by kernel_rfl) (by kernel_rfl) (fun _ _ _ h => h) (Or.inl ⟨by rfl, ?y4qaz⟩) hHeld ?r4qaz
    case y4qaz => ((intro w hSw); (try dsimp only at hSw); go_simp; try with_reducible rfl)
    try simp only [Act.put, List.setIfInBounds_toArray, List.set_cons_zero, List.set_cons_succ]
    refine wpAnyH_ready (rs := [3, 5]) (by kernel_rfl) (by simp) (AllReadyH.cons (o := ⟨some 14, _, _, _, _, _⟩) rfl (fun K hK => ?_) (AllReadyH.cons (o := ⟨some 16, _, _, _, _, _⟩) rfl (fun K hK => ?_) AllReadyH.nil))
    · go_simp
      refine hK.out _ _ trivial (fun hHeld => ?_)
      clear hK K
      try simp only [Act.put, List.setIfInBounds_toArray, List.set_cons_zero, List.set_cons_succ]
      refine wpAnyH_ready (rs := [5]) (by kernel_rfl) (by simp) (AllReadyH.cons (o := ⟨some 16, _, _, _, _, _⟩) rfl (fun K hK => ?_) AllReadyH.nil)
      go_simp
      refine HN2.out.mono ?_
      rintro e w3 ⟨rfl, k2, rfl⟩
      have hR3 := Lib.hid (show ((w2.drew.setCell ⟨g, 17, none⟩ (.int .i64 ((p + 1 + 1 : Nat) : Int))).drewN k2).heap[g]? = _ from heap_set HR2.out)
      have hC3 := Lib.hid (show Chg [g] w ((w2.drew.setCell ⟨g, 17, none⟩ (.int .i64 ((p + 1 + 1 : Nat) : Int))).drewN k2) from (((HC2.out.drew).set (.inl (by simp)) 17 _).drewN k2))
      generalize (w2.drew.setCell ⟨g, 17, none⟩ (.int .i64 ((p + 1 + 1 : Nat) : Int))).drewN k2 = w3 at *
      have e19 := hp_cell (j := 19) hR3.out K19.out
      have f19 := hp_froz hR3.out 19
      try go_wp2_with fail
      refine hK.out _ _ trivial (fun hHeld => ?_)
      clear hK K
      try simp only [Act.put, List.setIfInBounds_toArray, List.set_cons_zero, List.set_cons_succ]
      refine wpAnyH_take (i := 6) (oi := ⟨some 17, _, _, _, _, _⟩) (v := ?v6qaza) rfl (by kernel_rfl) (by kernel_rfl) (by kernel_rfl) (fun _ _ _ h => h) (Or.inl ⟨by rfl, ?y6qaza⟩) hHeld ?r6qaza
      case y6qaza => ((intro w hSw); (try dsimp only at hSw); go_simp; try with_reducible rfl)
      try simp only [Act.put, List.setIfInBounds_toArray, List.set_cons_zero, List.set_cons_succ]
      refine wpAnyH_take (i := 7) (oi := ⟨some 18, _, _, _, _, _⟩) (v := ?v7qaza) rfl (by kernel_rfl) (by kernel_rfl) (by kernel_rfl) (fun _ _ _ h => h) (Or.inl ⟨by rfl, ?y7qaza⟩) hHeld ?r7qaza
      case y7qaza => ((intro w hSw); (try dsimp only at hSw); go_simp; try with_reducible rfl)
      try simp only [Act.put, List.setIfInBounds_toArray, List.set_cons_zero, List.set_cons_succ]
      refine wpAnyH_take (i := 8) (oi := ⟨some 19, _, _, _, _, _⟩) (v := ?v8qaza) rfl (by kernel_rfl) (by kernel_rfl) (by kernel_rfl) (fun _ _ _ h => h) (Or.inl ⟨by rfl, ?y8qaza⟩) hHeld ?r8qaza
      case y8qaza => ((intro w hSw); (try dsimp only at hSw); go_simp; try with_reducible rfl)
      try simp only [Act.put, List.setIfInBounds_toArray, List.set_cons_zero, List.set_cons_succ]
      refine wpAnyH_ready (rs := [9]) (by kernel_rfl) (by simp) (AllReadyH.cons (o := ⟨none, _, _, _, _, _⟩) rfl (fun K hK => ?_) AllReadyH.nil)
      go_simp
      refine hK.out _ _ trivial (fun hHeld => ?_)
      clear hK K
      try simp only [Act.put, List.setIfInBounds_toArray, List.set_cons_zero, List.set_cons_succ]
      refine wpAnyH_done (by kernel_rfl) ?_ _
      have hR4 := heap_set (i := 19) (x := .int .i64 ((y : Int) + (dq : Int))) hR3.out
      have HC4 := Lib.hid (hC3.out.set (g := g) (.inl (by simp)) 19 (.int .i64 ((y : Int) + (dq : Int))))
      have HR4 := Lib.hid hR4
      clear e19 f19 c19 hR3 hC3 hR4
      generalize w3.setCell ⟨g, 19, none⟩ (.int .i64 ((y : Int) + (dq : Int))) = w4 at *
      have c3 := hp_cell (j := 3) HR4.out M3.out
      have c4 := hp_cell (j := 4) HR4.out M4.out
      have c18 := hp_cell (j := 18) HR4.out M18.out
      have c19 := hp_cell (j := 19) HR4.out M19.out
      go_upto_region 2 with fail
      refine wp_region_still_tail 20 (by kernel_rfl) (by kernel_rfl) ?_
      simp only [List.take_succ_cons, List.take_zero, List.drop_succ_cons, List.drop_zero]
      repeat (with_reducible refine wpStill_step (fun K hK => ?_); go_simp; with_reducible refine hK _ ?_; clear hK K)
      with_reducible refine wpStill_nil ?_
      change wpList _ _ _ _ _ w4.drew
      go_wp2_with fail
      refine (bmust_no 4 _).mono ?_
      rintro e w9 ⟨hq, rfl⟩
      obtain rfl := hq
      go_wp2_with fail
      exact ⟨rfl, rfl, HC4.out.drew⟩
    · go_simp
      refine HN2.out.mono ?_
      rintro e w3 ⟨rfl, k2, rfl⟩
      have hR3 := Lib.hid (show ((w2.drew.setCell ⟨g, 17, none⟩ (.int .i64 ((p + 1 + 1 : Nat) : Int))).drewN k2).heap[g]? = _ from heap_set HR2.out)
      have hC3 := Lib.hid (show Chg [g] w ((w2.drew.setCell ⟨g, 17, none⟩ (.int .i64 ((p + 1 + 1 : Nat) : Int))).drewN k2) from (((HC2.out.drew).set (.inl (by simp)) 17 _).drewN k2))
      generalize (w2.drew.setCell ⟨g, 17, none⟩ (.int .i64 ((p + 1 + 1 : Nat) : Int))).drewN k2 = w3 at *
      have e19 := hp_cell (j := 19) hR3.out K19.out
      have f19 := hp_froz hR3.out 19
      try go_wp2_with fail
      refine hK.out _ _ trivial (fun hHeld => ?_)
      clear hK K
      try simp only [Act.put, List.setIfInBounds_toArray, List.set_cons_zero, List.set_cons_succ]
      refine wpAnyH_ready (rs := [3]) (by kernel_rfl) (by simp) (AllReadyH.cons (o := ⟨some 14, _, _, _, _, _⟩) rfl (fun K hK => ?_) AllReadyH.nil)
      go_simp
      refine hK.out _ _ trivial (fun hHeld => ?_)
      clear hK K
      try simp only [Act.put, List.setIfInBounds_toArray, List.set_cons_zero, List.set_cons_succ]
      refine wpAnyH_take (i := 6) (oi := ⟨some 17, _, _, _, _, _⟩) (v := ?v6qazb) rfl (by kernel_rfl) (by kernel_rfl) (by kernel_rfl) (fun _ _ _ h => h) (Or.inl ⟨by rfl, ?y6qazb⟩) hHeld ?r6qazb
      case y6qazb => ((intro w hSw); (try dsimp only at hSw); go_simp; try with_reducible rfl)
      try simp only [Act.put, List.setIfInBounds_toArray, List.set_cons_zero, List.set_cons_succ]
      refine wpAnyH_take (i := 7) (oi := ⟨some 18, _, _, _, _, _⟩) (v := ?v7qazb) rfl (by kernel_rfl) (by kernel_rfl) (by kernel_rfl) (fun _ _ _ h => h) (Or.inl ⟨by rfl, ?y7qazb⟩) hHeld ?r7qazb
      case y7qazb => ((intro w hSw); (try dsimp only at hSw); go_simp; try with_reducible rfl)
      try simp only [Act.put, List.setIfInBounds_toArray, List.set_cons_zero, List.set_cons_succ]
      refine wpAnyH_take (i := 8) (oi := ⟨some 19, _, _, _, _, _⟩) (v := ?v8qazb) rfl (by kernel_rfl) (by kernel_rfl) (by kernel_rfl) (fun _ _ _ h => h) (Or.inl ⟨by rfl, ?y8qazb⟩) hHeld ?r8qazb
      case y8qazb => ((intro w hSw); (try dsimp only at hSw); go_simp; try with_reducible rfl)
      try simp only [Act.put, List.setIfInBounds_toArray, List.set_cons_zero, List.set_cons_succ]
      refine wpAnyH_ready (rs := [9]) (by kernel_rfl) (by simp) (AllReadyH.cons (o := ⟨none, _, _, _, _, _⟩) rfl (fun K hK => ?_) AllReadyH.nil)
      go_simp
      refine hK.out _ _ trivial (fun hHeld => ?_)
      clear hK K
      try simp only [Act.put, List.setIfInBounds_toArray, List.set_cons_zero, List.set_cons_succ]
      refine wpAnyH_done (by kernel_rfl) ?_ _
      have hR4 := heap_set (i := 19) (x := .int .i64 ((y : Int) + (dq : Int))) hR3.out
      have HC4 := Lib.hid (hC3.out.set (g := g) (.inl (by simp)) 19 (.int .i64 ((y : Int) + (dq : Int))))
      have HR4 := Lib.hid hR4
      clear e19 f19 c19 hR3 hC3 hR4
      generalize w3.setCell ⟨g, 19, none⟩ (.int .i64 ((y : Int) + (dq : Int))) = w4 at *
      have c3 := hp_cell (j := 3) HR4.out M3.out
      have c4 := hp_cell (j := 4) HR4.out M4.out
      have c18 := hp_cell (j := 18) HR4.out M18.out
      have c19 := hp_cell (j := 19) HR4.out M19.out
      go_upto_region 2 with fail
      refine wp_region_still_tail 20 (by kernel_rfl) (by kernel_rfl) ?_
      simp only [List.take_succ_cons, List.take_zero, List.drop_succ_cons, List.drop_zero]
      repeat (with_reducible refine wpStill_step (fun K hK => ?_); go_simp; with_reducible refine hK _ ?_; clear hK K)
      with_reducible refine wpStill_nil ?_
      change wpList _ _ _ _ _ w4.drew
      go_wp2_with fail
      refine (bmust_no 4 _).mono ?_
      rintro e w9 ⟨hq, rfl⟩
      obtain rfl := hq
      go_wp2_with fail
      exact ⟨rfl, rfl, HC4.out.drew⟩
  · go_simp
    refine HN.out.mono ?_
    rintro e w1 ⟨rfl, k, rfl⟩
    have hR1 := Lib.hid (show ((w.drew.setCell ⟨g, 17, none⟩ (.int .i64 ((p + 1 : Nat) : Int))).drewN k).heap[g]? = _ from heap_set HR.out)
    have hC1 := Lib.hid (show Chg [g] w ((w.drew.setCell ⟨g, 17, none⟩ (.int .i64 ((p + 1 : Nat) : Int))).drewN k) from ((((Chg.refl [g] w).drew).set (.inl (by simp)) 17 _).drewN k))
    generalize (w.drew.setCell ⟨g, 17, none⟩ (.int .i64 ((p + 1 : Nat) : Int))).drewN k = w1 at *
    have e18 := hp_cell (j := 18) hR1.out H18.out
    have f18 := hp_froz hR1.out 18
    try go_wp2_with fail
    refine hK.out _ _ trivial (fun hHeld => ?_)
    clear hK K
    try simp only [Act.put, List.setIfInBounds_toArray, List.set_cons_zero, List.set_cons_succ]
    refine wpAnyH_ready (rs := [3]) (by kernel_rfl) (by simp) (AllReadyH.cons (o := ⟨some 5, _, _, _, _, _⟩) rfl (fun K hK => ?_) AllReadyH.nil)
    go_simp
    refine hK.out _ _ trivial (fun hHeld => ?_)
    clear hK K
    try simp only [Act.put, List.setIfInBounds_toArray, List.set_cons_zero, List.set_cons_succ]
    refine wpAnyH_take (i := 6) (oi := ⟨some 8, _, _, _, _, _⟩) (v := ?v6qb) rfl (by kernel_rfl) (by kernel_rfl) (by kernel_rfl) (fun _ _ _ h => h) (Or.inl ⟨by rfl, ?y6qb⟩) hHeld ?r6qb
    case y6qb => ((intro w hSw); (try dsimp only at hSw); go_simp; try with_reducible rfl)
    try simp only [Act.put, List.setIfInBounds_toArray, List.set_cons_zero, List.set_cons_succ]
    refine wpAnyH_take (i := 7) (oi := ⟨some 9, _, _, _, _, _⟩) (v := ?v7qb) rfl (by kernel_rfl) (by kernel_rfl) (by kernel_rfl) (fun _ _ _ h => h) (Or.inl ⟨by rfl, ?y7qb⟩) hHeld ?r7qb
    case y7qb => ((intro w hSw); (try dsimp only at hSw); go_simp; try with_reducible rfl)
    try simp only [Act.put, List.setIfInBounds_toArray, List.set_cons_zero, List.set_cons_succ]
    refine wpAnyH_take (i := 8) (oi := ⟨some 10, _, _, _, _, _⟩) (v := ?v8qb) rfl (by kernel_rfl) (by kernel_rfl) (by kernel_rfl) (fun _ _ _ h => h) (Or.inl ⟨by rfl, ?y8qb⟩) hHeld ?r8qb
    case y8qb => ((intro w hSw); (try dsimp only at hSw); go_simp; try with_reducible rfl)
    try simp only [Act.put, List.setIfInBounds_toArray, List.set_cons_zero, List.set_cons_succ]
    refine wpAnyH_ready (rs := [9]) (by kernel_rfl) (by simp) (AllReadyH.cons (o := ⟨none, _, _, _, _, _⟩) rfl (fun K hK => ?_) AllReadyH.nil)
    go_simp
    refine hK.out _ _ trivial (fun hHeld => ?_)
    clear hK K
    try simp only [Act.put, List.setIfInBounds_toArray, List.set_cons_zero, List.set_cons_succ]
    refine wpAnyH_done (by kernel_rfl) ?_ _
    have hR2 := heap_set (i := 18) (x := .int .i64 ((x : Int) + (dp : Int))) hR1.out
    have HC2 := Lib.hid (hC1.out.set (g := g) (.inl (by simp)) 18 (.int .i64 ((x : Int) + (dp : Int))))
    have HR2 := Lib.hid hR2
    clear e18 f18 hR1 hC1 hR2
    generalize w1.setCell ⟨g, 18, none⟩ (.int .i64 ((x : Int) + (dp : Int))) = w2 at *
    have c19 := hp_cell (j := 19) HR2.out J19.out
    have HN2 := Lib.hid (next_yes g (p + 1) m cap A _ d HD.out hp2 hm w2.drew HR2.out J0.out J17.out (HB.out.chg (S := [g]) HC2.out.drew (fun _ a ha => by simp; exact hA a ha)) hA)
    rw [HQ.out] at HN2
    go_upto_region 1 with fail
    refine wp_region_held_drew (S := fun _ => True) (by kernel_rfl) trivial (fun hHeld => ?_)
    refine wpAnyH_take (i := 0) (oi := ⟨some 11, _, _, _, _, _⟩) (v := ?v0qbz) rfl (by kernel_rfl) (by kernel_rfl) (by kernel_rfl) (fun _ _ _ h => h) (Or.inl ⟨by rfl, ?y0qbz⟩) hHeld ?r0qbz
    case y0qbz => ((intro w hSw); (try dsimp only at hSw); go_simp; try with_reducible rfl)
    try simp only [Act.put, List.setIfInBounds_toArray, List.set_cons_zero, List.set_cons_succ]
    refine wpAnyH_take (i := 1) (oi := ⟨some 12, _, _, _, _, _⟩) (v := ?v1qbz) rfl (by kernel_rfl) (by kernel_rfl) (by kernel_rfl) (fun _ _ _ h => h) (Or.inl ⟨by rfl, ?y1qbz⟩) hHeld ?r1qbz
    case y1qbz => ((intro w hSw); (try dsimp only at hSw); go_simp; try with_reducible rfl)
    try simp only [Act.put, List.setIfInBounds_toArray, List.set_cons_zero, List.set_cons_succ]
    refine wpAnyH_take (i := 2) (oi := ⟨some 13, _, _, _, _, _⟩) (v := ?v2qbz) rfl (by kernel_rfl) (by kernel_rfl) (by kernel_rfl) (fun _ _ _ h => h) (Or.inl ⟨by rfl, ?y2qbz⟩) hHeld ?r2qbz
    case y2qbz => ((intro w hSw); (try dsimp only at hSw); go_simp; try with_reducible rfl)
    try simp only [Act.put, List.setIfInBounds_toArray, List.set_cons_zero, List.set_cons_succ]
    refine wpAnyH_take (i := 4) (oi := ⟨some 15, _, _, _, _, _⟩) (v := ?v4qbz) rfl (by kernel_rfl) (by kernel_rfl) (by kernel_rfl) (fun _ _ _ h => h) (Or.inl ⟨by rfl, ?y4qbz⟩) hHeld ?r4qbz
    case y4qbz => ((intro w hSw); (try dsimp only at hSw); go_simp; try with_reducible rfl)
    try simp only [Act.put, List.setIfInBounds_toArray, List.set_cons_zero, List.set_cons_succ]
    refine wpAnyH_ready (rs := [3, 5]) (by kernel_rfl) (by simp) (AllReadyH.cons (o := ⟨some 14, _, _, _, _, _⟩) rfl (fun K hK => ?_) (AllReadyH.cons (o := ⟨some 16, _, _, _, _, _⟩) rfl (fun K hK => ?_) AllReadyH.nil))
    · go_simp
      refine hK.out _ _ trivial (fun hHeld => ?_)
      clear hK K
      try simp only [Act.put, List.setIfInBounds_toArray, List.set_cons_zero, List.set_cons_succ]
      refine wpAnyH_ready (rs := [5]) (by kernel_rfl) (by simp) (AllReadyH.cons (o := ⟨some 16, _, _, _, _, _⟩) rfl (fun K hK => ?_) AllReadyH.nil)
      go_simp
      refine HN2.out.mono ?_
      rintro e w3 ⟨rfl, k2, rfl⟩
      have hR3 := Lib.hid (show ((w2.drew.setCell ⟨g, 17, none⟩ (.int .i64 ((p + 1 + 1 : Nat) : Int))).drewN k2).heap[g]? = _ from heap_set HR2.out)
      have hC3 := Lib.hid (show Chg [g] w ((w2.drew.setCell ⟨g, 17, none⟩ (.int .i64 ((p + 1 + 1 : Nat) : Int))).drewN k2) from (((HC2.out.drew).set (.inl (by simp)) 17 _).drewN k2))
      generalize (w2.drew.setCell ⟨g, 17, none⟩ (.int .i64 ((p + 1 + 1 : Nat) : Int))).drewN k2 = w3 at *
      have e19 := hp_cell (j := 19) hR3.out K19.out
      have f19 := hp_froz hR3.out 19
      try go_wp2_with fail
      refine hK.out _ _ trivial (fun hHeld => ?_)
      clear hK K
      try simp only [Act.put, List.setIfInBounds_toArray, List.set_cons_zero, List.set_cons_succ]
      refine wpAnyH_take (i := 6) (oi := ⟨some 17, _, _, _, _, _⟩) (v := ?v6qbza) rfl (by kernel_rfl) (by kernel_rfl) (by kernel_rfl) (fun _ _ _ h => h) (Or.inl ⟨by rfl, ?y6qbza⟩) hHeld ?r6qbza
      case y6qbza => ((intro w hSw); (try dsimp only at hSw); go_simp; try with_reducible rfl)
      try simp only [Act.put, List.setIfInBounds_toArray, List.set_cons_zero, List.set_cons_succ]
      refine wpAnyH_take (i := 7) (oi := ⟨some 18, _, _, _, _, _⟩) (v := ?v7qbza) rfl (by kernel_rfl) (by kernel_rfl) (by kernel_rfl) (fun _ _ _ h => h) (Or.inl ⟨by rfl, ?y7qbza⟩) hHeld ?r7qbza
      case y7qbza => ((intro w hSw); (try dsimp only at hSw); go_simp; try with_reducible rfl)
      try simp only [Act.put, List.setIfInBounds_toArray, List.set_cons_zero, List.set_cons_succ]
      refine wpAnyH_take (i := 8) (oi := ⟨some 19, _, _, _, _, _⟩) (v := ?v8qbza) rfl (by kernel_rfl) (by kernel_rfl) (by kernel_rfl) (fun _ _ _ h => h) (Or.inl ⟨by rfl, ?y8qbza⟩) hHeld ?r8qbza
      case y8qbza => ((intro w hSw); (try dsimp only at hSw); go_simp; try with_reducible rfl)
      try simp only [Act.put, List.setIfInBounds_toArray, List.set_cons_zero, List.set_cons_succ]
      refine wpAnyH_ready (rs := [9]) (by kernel_rfl) (by simp) (AllReadyH.cons (o := ⟨none, _, _, _, _, _⟩) rfl (fun K hK => ?_) AllReadyH.nil)
      go_simp
      refine hK.out _ _ trivial (fun hHeld => ?_)
      clear hK K
      try simp only [Act.put, List.setIfInBounds_toArray, List.set_cons_zero, List.set_cons_succ]
      refine wpAnyH_done (by kernel_rfl) ?_ _
      have hR4 := heap_set (i := 19) (x := .int .i64 ((y : Int) + (dq : Int))) hR3.out
      have HC4 := Lib.hid (hC3.out.set (g := g) (.inl (by simp)) 19 (.int .i64 ((y : Int) + (dq : Int))))
      have HR4 := Lib.hid hR4
      clear e19 f19 c19 hR3 hC3 hR4
      generalize w3.setCell ⟨g, 19, none⟩ (.int .i64 ((y : Int) + (dq : Int))) = w4 at *
      have c3 := hp_cell (j := 3) HR4.out M3.out
      have c4 := hp_cell (j := 4) HR4.out M4.out
      have c18 := hp_cell (j := 18) HR4.out M18.out
      have c19 := hp_cell (j := 19) HR4.out M19.out
      go_upto_region 2 with fail
      refine wp_region_still_tail 20 (by kernel_rfl) (by kernel_rfl) ?_
      simp only [List.take_succ_cons, List.take_zero, List.drop_succ_cons, List.drop_zero]
      repeat (with_reducible refine wpStill_step (fun K hK => ?_); go_simp; with_reducible refine hK _ ?_; clear hK K)
      with_reducible refine wpStill_nil ?_
      change wpList _ _ _ _ _ w4.drew
      go_wp2_with fail
      refine (bmust_no 4 _).mono ?_
      rintro e w9 ⟨hq, rfl⟩
      obtain rfl := hq
      go_wp2_with fail
      exact ⟨rfl, rfl, HC4.out.drew⟩
    · go_simp
      refine HN2.out.mono ?_
      rintro e w3 ⟨rfl, k2, rfl⟩
      have hR3 := Lib.hid (show ((w2.drew.setCell ⟨g, 17, none⟩ (.int .i64 ((p + 1 + 1 : Nat) : Int))).drewN k2).heap[g]? = _ from heap_set HR2.out)
      have hC3 := Lib.hid (show Chg [g] w ((w2.drew.setCell ⟨g, 17, none⟩ (.int .i64 ((p + 1 + 1 : Nat) : Int))).drewN k2) from (((HC2.out.drew).set (.inl (by simp)) 17 _).drewN k2))
      generalize (w2.drew.setCell ⟨g, 17, none⟩ (.int .i64 ((p + 1 + 1 : Nat) : Int))).drewN k2 = w3 at *
      have e19 := hp_cell (j := 19) hR3.out K19.out
      have f19 := hp_froz hR3.out 19
      try go_wp2_with fail
      refine hK.out _ _ trivial (fun hHeld => ?_)
      clear hK K
      try simp only [Act.put, List.setIfInBounds_toArray, List.set_cons_zero, List.set_cons_succ]
      refine wpAnyH_ready (rs := [3]) (by kernel_rfl) (by simp) (AllReadyH.cons (o := ⟨some 14, _, _, _, _, _⟩) rfl (fun K hK => ?_) AllReadyH.nil)
      go_simp
      refine hK.out _ _ trivial (fun hHeld => ?_)
      clear hK K
      try simp only [Act.put, List.setIfInBounds_toArray, List.set_cons_zero, List.set_cons_succ]
      refine wpAnyH_take (i := 6) (oi := ⟨some 17, _, _, _, _, _⟩) (v := ?v6qbzb) rfl (by kernel_rfl) (by kernel_rfl) (by kernel_rfl) (fun _ _ _ h => h) (Or.inl ⟨by rfl, ?y6qbzb⟩) hHeld ?r6qbzb
      case y6qbzb => ((intro w hSw); (try dsimp only at hSw); go_simp; try with_reducible rfl)
      try simp only [Act.put, List.setIfInBounds_toArray, List.set_cons_zero, List.set_cons_succ]
      refine wpAnyH_take (i := 7) (oi := ⟨some 18, _, _, _, _, _⟩) (v := ?v7qbzb) rfl (by kernel_rfl) (by kernel_rfl) (by kernel_rfl) (fun _ _ _ h => h) (Or.inl ⟨by rfl, ?y7qbzb⟩) hHeld ?r7qbzb
      case y7qbzb => ((intro w hSw); (try dsimp only at hSw); go_simp; try with_reducible rfl)
      try simp only [Act.put, List.setIfInBounds_toArray, List.set_cons_zero, List.set_cons_succ]
      refine wpAnyH_take (i := 8) (oi := ⟨some 19, _, _, _, _, _⟩) (v := ?v8qbzb) rfl (by kernel_rfl) (by kernel_rfl) (by kernel_rfl) (fun _ _ _ h => h) (Or.inl ⟨by rfl, ?y8qbzb⟩) hHeld ?r8qbzb
      case y8qbzb => ((intro w hSw); (try dsimp only at hSw); go_simp; try with_reducible rfl)
      try simp only [Act.put, List.setIfInBounds_toArray, List.set_cons_zero, List.set_cons_succ]
      refine wpAnyH_ready (rs := [9]) (by kernel_rfl) (by simp) (AllReadyH.cons (o := ⟨none, _, _, _, _, _⟩) rfl (fun K hK => ?_) AllReadyH.nil)
      go_simp
      refine hK.out _ _ trivial (fun hHeld => ?_)
      clear hK K
      try simp only [Act.put, List.setIfInBounds_toArray, List.set_cons_zero, List.set_cons_succ]
      refine wpAnyH_done (by kernel_rfl) ?_ _
      have hR4 := heap_set (i := 19) (x := .int .i64 ((y : Int) + (dq : Int))) hR3.out
      have HC4 := Lib.hid (hC3.out.set (g := g) (.inl (by simp)) 19 (.int .i64 ((y : Int) + (dq : Int))))
      have HR4 := Lib.hid hR4
      clear e19 f19 c19 hR3 hC3 hR4
      generalize w3.setCell ⟨g, 19, none⟩ (.int .i64 ((y : Int) + (dq : Int))) = w4 at *
      have c3 := hp_cell (j := 3) HR4.out M3.out
      have c4 := hp_cell (j := 4) HR4.out M4.out
      have c18 := hp_cell (j := 18) HR4.out M18.out
      have c19 := hp_cell (j := 19) HR4.out M19.out
      go_upto_region 2 with fail
      refine wp_region_still_tail 20 (by kernel_rfl) (by kernel_rfl) ?_
      simp only [List.take_succ_cons, List.take_zero, List.drop_succ_cons, List.drop_zero]
      repeat (with_reducible refine wpStill_step (fun K hK => ?_); go_simp; with_reducible refine hK _ ?_; clear hK K)
      with_reducible refine wpStill_nil ?_
      change wpList _ _ _ _ _ w4.drew
      go_wp2_with fail
      refine (bmust_no 4 _).mono ?_
      rintro e w9 ⟨hq, rfl⟩
      obtain rfl := hq
      go_wp2_with fail
      exact ⟨rfl, rfl, HC4.out.drew⟩
set_option maxRecDepth 100000 in
set_option maxHeartbeats 8000000 in
theorem step_up (g p m cap x y W H : Nat) (A : Option Addr) (cs : Array Value) (d : Nat → Nat) (hd : ∀ i, d i < 256) (hx : x ≤ 512) (hy : y ≤ 100000000) (hp : p < m) (hp2 : p + 1 < m) (hm : m ≤ 262144) (hout : x + d p ≤ W ∧ H ≤ y + d (p + 1)) (w : World) (hR : w.heap[g]? = some (.cells cs 71 (0, 0))) (q0 : cs[0]? = some (.slice A m cap)) (q3 : cs[3]? = some (.int .i64 (W : Nat))) (q4 : cs[4]? = some (.int .i64 (H : Nat))) (q17 : cs[17]? = some (.int .i64 (p : Nat))) (q18 : cs[18]? = some (.int .i64 (x : Nat))) (q19 : cs[19]? = some (.int .i64 (y : Nat))) (hB : Byt w A m d) (hA : ∀ a, A = some a → a.block ≠ g) :
    Calls Tryd.prog 58 #[.pointer (some ⟨g, 0, none⟩)] w fun e w' => PanB 4 e ∧ Chg [g] w w' := by
  have HN := Lib.hid (next_yes g p m cap A cs d hd hp hm w.drew hR q0 q17 (hB.below (Below.refl _ w).drew) hA)
  have HR := Lib.hid hR
  have HB := Lib.hid hB
  have HD := Lib.hid hd
  have H18 := Lib.hid (show (cs.setIfInBounds 17 (.int .i64 ((p + 1 : Nat) : Int)))[18]? = _ from (setB_get (by omega)).trans q18)
  have c18 := hp_cell (j := 18) hR q18
  have J0 := Lib.hid (show ((cs.setIfInBounds 17 (.int .i64 ((p + 1 : Nat) : Int))).setIfInBounds 18 (.int .i64 ((x : Int) + (d p : Int))))[0]? = _ from (setB_get (by omega)).trans ((setB_get (by omega)).trans q0))
  have J17 := Lib.hid (show ((cs.setIfInBounds 17 (.int .i64 ((p + 1 : Nat) : Int))).setIfInBounds 18 (.int .i64 ((x : Int) + (d p : Int))))[17]? = _ from (setB_get (by omega)).trans (setB_same q17))
  have J19 := Lib.hid (show ((cs.setIfInBounds 17 (.int .i64 ((p + 1 : Nat) : Int))).setIfInBounds 18 (.int .i64 ((x : Int) + (d p : Int))))[19]? = _ from (setB_get (by omega)).trans ((setB_get (by omega)).trans q19))
  have K19 := Lib.hid (show (((cs.setIfInBounds 17 (.int .i64 ((p + 1 : Nat) : Int))).setIfInBounds 18 (.int .i64 ((x : Int) + (d p : Int)))).setIfInBounds 17 (.int .i64 ((p + 1 + 1 : Nat) : Int)))[19]? = _ from (setB_get (by omega)).trans ((setB_get (by omega)).trans ((setB_get (by omega)).trans q19)))
  have M3 := Lib.hid (show ((((cs.setIfInBounds 17 (.int .i64 ((p + 1 : Nat) : Int))).setIfInBounds 18 (.int .i64 ((x : Int) + (d p : Int)))).setIfInBounds 17 (.int .i64 ((p + 1 + 1 : Nat) : Int))).setIfInBounds 19 (.int .i64 ((y : Int) + (d (p + 1) : Int))))[3]? = _ from (setB_get (by omega)).trans ((setB_get (by omega)).trans ((setB_get (by omega)).trans ((setB_get (by omega)).trans q3))))
  have M4 := Lib.hid (show ((((cs.setIfInBounds 17 (.int .i64 ((p + 1 : Nat) : Int))).setIfInBounds 18 (.int .i64 ((x : Int) + (d p : Int)))).setIfInBounds 17 (.int .i64 ((p + 1 + 1 : Nat) : Int))).setIfInBounds 19 (.int .i64 ((y : Int) + (d (p + 1) : Int))))[4]? = _ from (setB_get (by omega)).trans ((setB_get (by omega)).trans ((setB_get (by omega)).trans ((setB_get (by omega)).trans q4))))
  have M18 := Lib.hid (show ((((cs.setIfInBounds 17 (.int .i64 ((p + 1 : Nat) : Int))).setIfInBounds 18 (.int .i64 ((x : Int) + (d p : Int)))).setIfInBounds 17 (.int .i64 ((p + 1 + 1 : Nat) : Int))).setIfInBounds 19 (.int .i64 ((y : Int) + (d (p + 1) : Int))))[18]? = _ from (setB_get (by omega)).trans ((setB_get (by omega)).trans (setB_same ((setB_get (by omega)).trans q18))))
  have M19 := Lib.hid (show ((((cs.setIfInBounds 17 (.int .i64 ((p + 1 : Nat) : Int))).setIfInBounds 18 (.int .i64 ((x : Int) + (d p : Int)))).setIfInBounds 17 (.int .i64 ((p + 1 + 1 : Nat) : Int))).setIfInBounds 19 (.int .i64 ((y : Int) + (d (p + 1) : Int))))[19]? = _ from setB_same ((setB_get (by omega)).trans ((setB_get (by omega)).trans ((setB_get (by omega)).trans q19))))
  have hdp := hd p
  have hdq := hd (p + 1)
  obtain ⟨dp, hdpe⟩ : ∃ dp, dp = d p := ⟨_, rfl⟩
  obtain ⟨dq, hdqe⟩ : ∃ dq, dq = d (p + 1) := ⟨_, rfl⟩
  have HQ := Lib.hid hdqe.symm
  rw [← hdpe] at HN hdp J0 J17 J19 K19 M3 M4 M18 M19
  rw [← hdqe] at hdq M3 M4 M18 M19
  rw [← hdpe] at hout
  try rw [← hdqe] at hout
  have xw : IntKind.i64.wrap ((x : Int) + (dp : Int)) = (x : Int) + (dp : Int) := IntWalk.i64_in _ (by omega)
  have yw : IntKind.i64.wrap ((y : Int) + (dq : Int)) = (y : Int) + (dq : Int) := IntWalk.i64_in _ (by omega)
  have t1 : decide ((x : Int) + (dp : Int) ≤ (W : Int)) = true := by simp; omega
  have t2 : decide ((y : Int) + (dq : Int) < (H : Int)) = false := by simp; omega
  clear hR hdpe hdqe hd hB hout
  go_enter Tryd.func58, Tryd.ntmps58
  go_upto_region 0 with fail
  refine wp_region_held_drew (S := fun _ => True) (by kernel_rfl) trivial (fun hHeld => ?_)
  refine wpAnyH_take (i := 0) (oi := ⟨some 2, _, _, _, _, _⟩) (v := ?v0q) rfl (by kernel_rfl) (by kernel_rfl) (by kernel_rfl) (fun _ _ _ h => h) (Or.inl ⟨by rfl, ?y0q⟩) hHeld ?r0q
  case y0q => ((intro w hSw); (try dsimp only at hSw); go_simp; try with_reducible rfl)
  try simp only [Act.put, List.setIfInBounds_toArray, List.set_cons_zero, List.set_cons_succ]
  refine wpAnyH_take (i := 1) (oi := ⟨some 3, _, _, _, _, _⟩) (v := ?v1q) rfl (by kernel_rfl) (by kernel_rfl) (by kernel_rfl) (fun _ _ _ h => h) (Or.inl ⟨by rfl, ?y1q⟩) hHeld ?r1q
  case y1q => ((intro w hSw); (try dsimp only at hSw); go_simp; try with_reducible rfl)
  try simp only [Act.put, List.setIfInBounds_toArray, List.set_cons_zero, List.set_cons_succ]
  refine wpAnyH_take (i := 2) (oi := ⟨some 4, _, _, _, _, _⟩) (v := ?v2q) rfl (by kernel_rfl) (by kernel_rfl) (by kernel_rfl) (fun _ _ _ h => h) (Or.inl ⟨by rfl, ?y2q⟩) hHeld ?r2q
  case y2q => ((intro w hSw); (try dsimp only at hSw); go_simp; try with_reducible rfl)
  try simp only [Act.put, List.setIfInBounds_toArray, List.set_cons_zero, List.set_cons_succ]
  refine wpAnyH_take (i := 4) (oi := ⟨some 6, _, _, _, _, _⟩) (v := ?v4q) rfl (by kernel_rfl) (by kernel_rfl) (by kernel_rfl) (fun _ _ _ h => h) (Or.inl ⟨by rfl, ?y4q⟩) hHeld ?r4q
  case y4q => ((intro w hSw); (try dsimp only at hSw); go_simp; try with_reducible rfl)
  try simp only [Act.put, List.setIfInBounds_toArray, List.set_cons_zero, List.set_cons_succ]
  refine wpAnyH_ready (rs := [3, 5]) (by kernel_rfl) (by simp) (AllReadyH.cons (o := ⟨some 5, _, _, _, _, _⟩) rfl (fun K hK => ?_) (AllReadyH.cons (o := ⟨some 7, _, _, _, _, _⟩) rfl (fun K hK => ?_) AllReadyH.nil))
  · go_simp
    refine hK.out _ _ trivial (fun hHeld => ?_)
    clear hK K
    try simp only [Act.put, List.setIfInBounds_toArray, List.set_cons_zero, List.set_cons_succ]
    refine wpAnyH_ready (rs := [5]) (by kernel_rfl) (by simp) (AllReadyH.cons (o := ⟨some 7, _, _, _, _, _⟩) rfl (fun K hK => ?_) AllReadyH.nil)
    go_simp
    refine HN.out.mono ?_
    rintro e w1 ⟨rfl, k, rfl⟩
    have hR1 := Lib.hid (show ((w.drew.setCell ⟨g, 17, none⟩ (.int .i64 ((p + 1 : Nat) : Int))).drewN k).heap[g]? = _ from heap_set HR.out)
    have hC1 := Lib.hid (show Chg [g] w ((w.drew.setCell ⟨g, 17, none⟩ (.int .i64 ((p + 1 : Nat) : Int))).drewN k) from ((((Chg.refl [g] w).drew).set (.inl (by simp)) 17 _).drewN k))
    generalize (w.drew.setCell ⟨g, 17, none⟩ (.int .i64 ((p + 1 : Nat) : Int))).drewN k = w1 at *
    have e18 := hp_cell (j := 18) hR1.out H18.out
    have f18 := hp_froz hR1.out 18
    try go_wp2_with fail
    refine hK.out _ _ trivial (fun hHeld => ?_)
    clear hK K
    try simp only [Act.put, List.setIfInBounds_toArray, List.set_cons_zero, List.set_cons_succ]
    refine wpAnyH_take (i := 6) (oi := ⟨some 8, _, _, _, _, _⟩) (v := ?v6qa) rfl (by kernel_rfl) (by kernel_rfl) (by kernel_rfl) (fun _ _ _ h => h) (Or.inl ⟨by rfl, ?y6qa⟩) hHeld ?r6qa
    case y6qa => ((intro w hSw); (try dsimp only at hSw); go_simp; try with_reducible rfl)
    try simp only [Act.put, List.setIfInBounds_toArray, List.set_cons_zero, List.set_cons_succ]
    refine wpAnyH_take (i := 7) (oi := ⟨some 9, _, _, _, _, _⟩) (v := ?v7qa) rfl (by kernel_rfl) (by kernel_rfl) (by kernel_rfl) (fun _ _ _ h => h) (Or.inl ⟨by rfl, ?y7qa⟩) hHeld ?r7qa
    case y7qa => ((intro w hSw); (try dsimp only at hSw); go_simp; try with_reducible rfl)
    try simp only [Act.put, List.setIfInBounds_toArray, List.set_cons_zero, List.set_cons_succ]
    refine wpAnyH_take (i := 8) (oi := ⟨some 10, _, _, _, _, _⟩) (v := ?v8qa) rfl (by kernel_rfl) (by kernel_rfl) (by kernel_rfl) (fun _ _ _ h => h) (Or.inl ⟨by rfl, ?y8qa⟩) hHeld ?r8qa
    case y8qa => ((intro w hSw); (try dsimp only at hSw); go_simp; try with_reducible rfl)
    try simp only [Act.put, List.setIfInBounds_toArray, List.set_cons_zero, List.set_cons_succ]
    refine wpAnyH_ready (rs := [9]) (by kernel_rfl) (by simp) (AllReadyH.cons (o := ⟨none, _, _, _, _, _⟩) rfl (fun K hK => ?_) AllReadyH.nil)
    go_simp
    refine hK.out _ _ trivial (fun hHeld => ?_)
    clear hK K
    try simp only [Act.put, List.setIfInBounds_toArray, List.set_cons_zero, List.set_cons_succ]
    refine wpAnyH_done (by kernel_rfl) ?_ _
    have hR2 := heap_set (i := 18) (x := .int .i64 ((x : Int) + (dp : Int))) hR1.out
    have HC2 := Lib.hid (hC1.out.set (g := g) (.inl (by simp)) 18 (.int .i64 ((x : Int) + (dp : Int))))
    have HR2 := Lib.hid hR2
    clear e18 f18 hR1 hC1 hR2
    generalize w1.setCell ⟨g, 18, none⟩ (.int .i64 ((x : Int) + (dp : Int))) = w2 at *
    have c19 := hp_cell (j := 19) HR2.out J19.out
    have HN2 := Lib.hid (next_yes g (p + 1) m cap A _ d HD.out hp2 hm w2.drew HR2.out J0.out J17.out (HB.out.chg (S := [g]) HC2.out.drew (fun _ a ha => by simp; exact hA a ha)) hA)
    rw [HQ.out] at HN2
    go_upto_region 1 with fail
    refine wp_region_held_drew (S := fun _ => True) (by kernel_rfl) trivial (fun hHeld => ?_)
    refine wpAnyH_take (i := 0) (oi := ⟨some 11, _, _, _, _, _⟩) (v := ?v0qaz) rfl (by kernel_rfl) (by kernel_rfl) (by kernel_rfl) (fun _ _ _ h => h) (Or.inl ⟨by rfl, ?y0qaz⟩) hHeld ?r0qaz
    case y0qaz => ((intro w hSw); (try dsimp only at hSw); go_simp; try with_reducible rfl)
    try simp only [Act.put, List.setIfInBounds_toArray, List.set_cons_zero, List.set_cons_succ]
    refine wpAnyH_take (i := 1) (oi := ⟨some 12, _, _, _, _, _⟩) (v := ?v1qaz) rfl (by kernel_rfl) (by kernel_rfl) (by kernel_rfl) (fun _ _ _ h => h) (Or.inl ⟨by rfl, ?y1qaz⟩) hHeld ?r1qaz
    case y1qaz => ((intro w hSw); (try dsimp only at hSw); go_simp; try with_reducible rfl)
    try simp only [Act.put, List.setIfInBounds_toArray, List.set_cons_zero, List.set_cons_succ]
    refine wpAnyH_take (i := 2) (oi := ⟨some 13, _, _, _, _, _⟩) (v := ?v2qaz) rfl (by kernel_rfl) (by kernel_rfl) (by kernel_rfl) (fun _ _ _ h => h) (Or.inl ⟨by rfl, ?y2qaz⟩) hHeld ?r2qaz
    case y2qaz => ((intro w hSw); (try dsimp only at hSw); go_simp; try with_reducible rfl)
    try simp only [Act.put, List.setIfInBounds_toArray, List.set_cons_zero, List.set_cons_succ]
    refine wpAnyH_take (i := 4) (oi := ⟨some 15, _, _, _, _, _⟩) (v := ?v4qaz) rfl (by kernel_rfl) (by kernel_rfl) (by kernel_rfl) (fun _ _ _ h => h) (Or.inl ⟨by rfl, ?y4qaz⟩) hHeld ?r4qaz
    case y4qaz => ((intro w hSw); (try dsimp only at hSw); go_simp; try with_reducible rfl)
    try simp only [Act.put, List.setIfInBounds_toArray, List.set_cons_zero, List.set_cons_succ]
    refine wpAnyH_ready (rs := [3, 5]) (by kernel_rfl) (by simp) (AllReadyH.cons (o := ⟨some 14, _, _, _, _, _⟩) rfl (fun K hK => ?_) (AllReadyH.cons (o := ⟨some 16, _, _, _, _, _⟩) rfl (fun K hK => ?_) AllReadyH.nil))
    · go_simp
      refine hK.out _ _ trivial (fun hHeld => ?_)
      clear hK K
      try simp only [Act.put, List.setIfInBounds_toArray, List.set_cons_zero, List.set_cons_succ]
      refine wpAnyH_ready (rs := [5]) (by kernel_rfl) (by simp) (AllReadyH.cons (o := ⟨some 16, _, _, _, _, _⟩) rfl (fun K hK => ?_) AllReadyH.nil)
      go_simp
      refine HN2.out.mono ?_
      rintro e w3 ⟨rfl, k2, rfl⟩
      have hR3 := Lib.hid (show ((w2.drew.setCell ⟨g, 17, none⟩ (.int .i64 ((p + 1 + 1 : Nat) : Int))).drewN k2).heap[g]? = _ from heap_set HR2.out)
      have hC3 := Lib.hid (show Chg [g] w ((w2.drew.setCell ⟨g, 17, none⟩ (.int .i64 ((p + 1 + 1 : Nat) : Int))).drewN k2) from (((HC2.out.drew).set (.inl (by simp)) 17 _).drewN k2))
      generalize (w2.drew.setCell ⟨g, 17, none⟩ (.int .i64 ((p + 1 + 1 : Nat) : Int))).drewN k2 = w3 at *
      have e19 := hp_cell (j := 19) hR3.out K19.out
      have f19 := hp_froz hR3.out 19
      try go_wp2_with fail
      refine hK.out _ _ trivial (fun hHeld => ?_)
      clear hK K
      try simp only [Act.put, List.setIfInBounds_toArray, List.set_cons_zero, List.set_cons_succ]
      refine wpAnyH_take (i := 6) (oi := ⟨some 17, _, _, _, _, _⟩) (v := ?v6qaza) rfl (by kernel_rfl) (by kernel_rfl) (by kernel_rfl) (fun _ _ _ h => h) (Or.inl ⟨by rfl, ?y6qaza⟩) hHeld ?r6qaza
      case y6qaza => ((intro w hSw); (try dsimp only at hSw); go_simp; try with_reducible rfl)
      try simp only [Act.put, List.setIfInBounds_toArray, List.set_cons_zero, List.set_cons_succ]
      refine wpAnyH_take (i := 7) (oi := ⟨some 18, _, _, _, _, _⟩) (v := ?v7qaza) rfl (by kernel_rfl) (by kernel_rfl) (by kernel_rfl) (fun _ _ _ h => h) (Or.inl ⟨by rfl, ?y7qaza⟩) hHeld ?r7qaza
      case y7qaza => ((intro w hSw); (try dsimp only at hSw); go_simp; try with_reducible rfl)
      try simp only [Act.put, List.setIfInBounds_toArray, List.set_cons_zero, List.set_cons_succ]
      refine wpAnyH_take (i := 8) (oi := ⟨some 19, _, _, _, _, _⟩) (v := ?v8qaza) rfl (by kernel_rfl) (by kernel_rfl) (by kernel_rfl) (fun _ _ _ h => h) (Or.inl ⟨by rfl, ?y8qaza⟩) hHeld ?r8qaza
      case y8qaza => ((intro w hSw); (try dsimp only at hSw); go_simp; try with_reducible rfl)
      try simp only [Act.put, List.setIfInBounds_toArray, List.set_cons_zero, List.set_cons_succ]
      refine wpAnyH_ready (rs := [9]) (by kernel_rfl) (by simp) (AllReadyH.cons (o := ⟨none, _, _, _, _, _⟩) rfl (fun K hK => ?_) AllReadyH.nil)
      go_simp
      refine hK.out _ _ trivial (fun hHeld => ?_)
      clear hK K
      try simp only [Act.put, List.setIfInBounds_toArray, List.set_cons_zero, List.set_cons_succ]
      refine wpAnyH_done (by kernel_rfl) ?_ _
      have hR4 := heap_set (i := 19) (x := .int .i64 ((y : Int) + (dq : Int))) hR3.out
      have HC4 := Lib.hid (hC3.out.set (g := g) (.inl (by simp)) 19 (.int .i64 ((y : Int) + (dq : Int))))
      have HR4 := Lib.hid hR4
      clear e19 f19 c19 hR3 hC3 hR4
      generalize w3.setCell ⟨g, 19, none⟩ (.int .i64 ((y : Int) + (dq : Int))) = w4 at *
      have c3 := hp_cell (j := 3) HR4.out M3.out
      have c4 := hp_cell (j := 4) HR4.out M4.out
      have c18 := hp_cell (j := 18) HR4.out M18.out
      have c19 := hp_cell (j := 19) HR4.out M19.out
      go_upto_region 2 with fail
      refine wp_region_still_tail 20 (by kernel_rfl) (by kernel_rfl) ?_
      simp only [List.take_succ_cons, List.take_zero, List.drop_succ_cons, List.drop_zero]
      repeat (with_reducible refine wpStill_step (fun K hK => ?_); go_simp; with_reducible refine hK _ ?_; clear hK K)
      with_reducible refine wpStill_nil ?_
      change wpList _ _ _ _ _ w4.drew
      go_wp2_with fail
      refine (bmust_no 4 _).mono ?_
      rintro e w9 ⟨hq, rfl⟩
      obtain rfl := hq
      go_wp2_with fail
      exact ⟨rfl, rfl, HC4.out.drew⟩
    · go_simp
      refine HN2.out.mono ?_
      rintro e w3 ⟨rfl, k2, rfl⟩
      have hR3 := Lib.hid (show ((w2.drew.setCell ⟨g, 17, none⟩ (.int .i64 ((p + 1 + 1 : Nat) : Int))).drewN k2).heap[g]? = _ from heap_set HR2.out)
      have hC3 := Lib.hid (show Chg [g] w ((w2.drew.setCell ⟨g, 17, none⟩ (.int .i64 ((p + 1 + 1 : Nat) : Int))).drewN k2) from (((HC2.out.drew).set (.inl (by simp)) 17 _).drewN k2))
      generalize (w2.drew.setCell ⟨g, 17, none⟩ (.int .i64 ((p + 1 + 1 : Nat) : Int))).drewN k2 = w3 at *
      have e19 := hp_cell (j := 19) hR3.out K19.out
      have f19 := hp_froz hR3.out 19
      try go_wp2_with fail
      refine hK.out _ _ trivial (fun hHeld => ?_)
      clear hK K
      try simp only [Act.put, List.setIfInBounds_toArray, List.set_cons_zero, List.set_cons_succ]
      refine wpAnyH_ready (rs := [3]) (by kernel_rfl) (by simp) (AllReadyH.cons (o := ⟨some 14, _, _, _, _, _⟩) rfl (fun K hK => ?_) AllReadyH.nil)
      go_simp
      refine hK.out _ _ trivial (fun hHeld => ?_)
      clear hK K
      try simp only [Act.put, List.setIfInBounds_toArray, List.set_cons_zero, List.set_cons_succ]
      refine wpAnyH_take (i := 6) (oi := ⟨some 17, _, _, _, _, _⟩) (v := ?v6qazb) rfl (by kernel_rfl) (by kernel_rfl) (by kernel_rfl) (fun _ _ _ h => h) (Or.inl ⟨by rfl, ?y6qazb⟩) hHeld ?r6qazb
      case y6qazb => ((intro w hSw); (try dsimp only at hSw); go_simp; try with_reducible rfl)
      try simp only [Act.put, List.setIfInBounds_toArray, List.set_cons_zero, List.set_cons_succ]
      refine wpAnyH_take (i := 7) (oi := ⟨some 18, _, _, _, _, _⟩) (v := ?v7qazb) rfl (by kernel_rfl) (by kernel_rfl) (by kernel_rfl) (fun _ _ _ h => h) (Or.inl ⟨by rfl, ?y7qazb⟩) hHeld ?r7qazb
      case y7qazb => ((intro w hSw); (try dsimp only at hSw); go_simp; try with_reducible rfl)
      try simp only [Act.put, List.setIfInBounds_toArray, List.set_cons_zero, List.set_cons_succ]
      refine wpAnyH_take (i := 8) (oi := ⟨some 19, _, _, _, _, _⟩) (v := ?v8qazb) rfl (by kernel_rfl) (by kernel_rfl) (by kernel_rfl) (fun _ _ _ h => h) (Or.inl ⟨by rfl, ?y8qazb⟩) hHeld ?r8qazb
      case y8qazb => ((intro w hSw); (try dsimp only at hSw); go_simp; try with_reducible rfl)
      try simp only [Act.put, List.setIfInBounds_toArray, List.set_cons_zero, List.set_cons_succ]
      refine wpAnyH_ready (rs := [9]) (by kernel_rfl) (by simp) (AllReadyH.cons (o := ⟨none, _, _, _, _, _⟩) rfl (fun K hK => ?_) AllReadyH.nil)
      go_simp
      refine hK.out _ _ trivial (fun hHeld => ?_)
      clear hK K
      try simp only [Act.put, List.setIfInBounds_toArray, List.set_cons_zero, List.set_cons_succ]
      refine wpAnyH_done (by kernel_rfl) ?_ _
      have hR4 := heap_set (i := 19) (x := .int .i64 ((y : Int) + (dq : Int))) hR3.out
      have HC4 := Lib.hid (hC3.out.set (g := g) (.inl (by simp)) 19 (.int .i64 ((y : Int) + (dq : Int))))
      have HR4 := Lib.hid hR4
      clear e19 f19 c19 hR3 hC3 hR4
      generalize w3.setCell ⟨g, 19, none⟩ (.int .i64 ((y : Int) + (dq : Int))) = w4 at *
      have c3 := hp_cell (j := 3) HR4.out M3.out
      have c4 := hp_cell (j := 4) HR4.out M4.out
      have c18 := hp_cell (j := 18) HR4.out M18.out
      have c19 := hp_cell (j := 19) HR4.out M19.out
      go_upto_region 2 with fail
      refine wp_region_still_tail 20 (by kernel_rfl) (by kernel_rfl) ?_
      simp only [List.take_succ_cons, List.take_zero, List.drop_succ_cons, List.drop_zero]
      repeat (with_reducible refine wpStill_step (fun K hK => ?_); go_simp; with_reducible refine hK _ ?_; clear hK K)
      with_reducible refine wpStill_nil ?_
      change wpList _ _ _ _ _ w4.drew
      go_wp2_with fail
      refine (bmust_no 4 _).mono ?_
      rintro e w9 ⟨hq, rfl⟩
      obtain rfl := hq
      go_wp2_with fail
      exact ⟨rfl, rfl, HC4.out.drew⟩
  · go_simp
    refine HN.out.mono ?_
    rintro e w1 ⟨rfl, k, rfl⟩
    have hR1 := Lib.hid (show ((w.drew.setCell ⟨g, 17, none⟩ (.int .i64 ((p + 1 : Nat) : Int))).drewN k).heap[g]? = _ from heap_set HR.out)
    have hC1 := Lib.hid (show Chg [g] w ((w.drew.setCell ⟨g, 17, none⟩ (.int .i64 ((p + 1 : Nat) : Int))).drewN k) from ((((Chg.refl [g] w).drew).set (.inl (by simp)) 17 _).drewN k))
    generalize (w.drew.setCell ⟨g, 17, none⟩ (.int .i64 ((p + 1 : Nat) : Int))).drewN k = w1 at *
    have e18 := hp_cell (j := 18) hR1.out H18.out
    have f18 := hp_froz hR1.out 18
    try go_wp2_with fail
    refine hK.out _ _ trivial (fun hHeld => ?_)
    clear hK K
    try simp only [Act.put, List.setIfInBounds_toArray, List.set_cons_zero, List.set_cons_succ]
    refine wpAnyH_ready (rs := [3]) (by kernel_rfl) (by simp) (AllReadyH.cons (o := ⟨some 5, _, _, _, _, _⟩) rfl (fun K hK => ?_) AllReadyH.nil)
    go_simp
    refine hK.out _ _ trivial (fun hHeld => ?_)
    clear hK K
    try simp only [Act.put, List.setIfInBounds_toArray, List.set_cons_zero, List.set_cons_succ]
    refine wpAnyH_take (i := 6) (oi := ⟨some 8, _, _, _, _, _⟩) (v := ?v6qb) rfl (by kernel_rfl) (by kernel_rfl) (by kernel_rfl) (fun _ _ _ h => h) (Or.inl ⟨by rfl, ?y6qb⟩) hHeld ?r6qb
    case y6qb => ((intro w hSw); (try dsimp only at hSw); go_simp; try with_reducible rfl)
    try simp only [Act.put, List.setIfInBounds_toArray, List.set_cons_zero, List.set_cons_succ]
    refine wpAnyH_take (i := 7) (oi := ⟨some 9, _, _, _, _, _⟩) (v := ?v7qb) rfl (by kernel_rfl) (by kernel_rfl) (by kernel_rfl) (fun _ _ _ h => h) (Or.inl ⟨by rfl, ?y7qb⟩) hHeld ?r7qb
    case y7qb => ((intro w hSw); (try dsimp only at hSw); go_simp; try with_reducible rfl)
    try simp only [Act.put, List.setIfInBounds_toArray, List.set_cons_zero, List.set_cons_succ]
    refine wpAnyH_take (i := 8) (oi := ⟨some 10, _, _, _, _, _⟩) (v := ?v8qb) rfl (by kernel_rfl) (by kernel_rfl) (by kernel_rfl) (fun _ _ _ h => h) (Or.inl ⟨by rfl, ?y8qb⟩) hHeld ?r8qb
    case y8qb => ((intro w hSw); (try dsimp only at hSw); go_simp; try with_reducible rfl)
    try simp only [Act.put, List.setIfInBounds_toArray, List.set_cons_zero, List.set_cons_succ]
    refine wpAnyH_ready (rs := [9]) (by kernel_rfl) (by simp) (AllReadyH.cons (o := ⟨none, _, _, _, _, _⟩) rfl (fun K hK => ?_) AllReadyH.nil)
    go_simp
    refine hK.out _ _ trivial (fun hHeld => ?_)
    clear hK K
    try simp only [Act.put, List.setIfInBounds_toArray, List.set_cons_zero, List.set_cons_succ]
    refine wpAnyH_done (by kernel_rfl) ?_ _
    have hR2 := heap_set (i := 18) (x := .int .i64 ((x : Int) + (dp : Int))) hR1.out
    have HC2 := Lib.hid (hC1.out.set (g := g) (.inl (by simp)) 18 (.int .i64 ((x : Int) + (dp : Int))))
    have HR2 := Lib.hid hR2
    clear e18 f18 hR1 hC1 hR2
    generalize w1.setCell ⟨g, 18, none⟩ (.int .i64 ((x : Int) + (dp : Int))) = w2 at *
    have c19 := hp_cell (j := 19) HR2.out J19.out
    have HN2 := Lib.hid (next_yes g (p + 1) m cap A _ d HD.out hp2 hm w2.drew HR2.out J0.out J17.out (HB.out.chg (S := [g]) HC2.out.drew (fun _ a ha => by simp; exact hA a ha)) hA)
    rw [HQ.out] at HN2
    go_upto_region 1 with fail
    refine wp_region_held_drew (S := fun _ => True) (by kernel_rfl) trivial (fun hHeld => ?_)
    refine wpAnyH_take (i := 0) (oi := ⟨some 11, _, _, _, _, _⟩) (v := ?v0qbz) rfl (by kernel_rfl) (by kernel_rfl) (by kernel_rfl) (fun _ _ _ h => h) (Or.inl ⟨by rfl, ?y0qbz⟩) hHeld ?r0qbz
    case y0qbz => ((intro w hSw); (try dsimp only at hSw); go_simp; try with_reducible rfl)
    try simp only [Act.put, List.setIfInBounds_toArray, List.set_cons_zero, List.set_cons_succ]
    refine wpAnyH_take (i := 1) (oi := ⟨some 12, _, _, _, _, _⟩) (v := ?v1qbz) rfl (by kernel_rfl) (by kernel_rfl) (by kernel_rfl) (fun _ _ _ h => h) (Or.inl ⟨by rfl, ?y1qbz⟩) hHeld ?r1qbz
    case y1qbz => ((intro w hSw); (try dsimp only at hSw); go_simp; try with_reducible rfl)
    try simp only [Act.put, List.setIfInBounds_toArray, List.set_cons_zero, List.set_cons_succ]
    refine wpAnyH_take (i := 2) (oi := ⟨some 13, _, _, _, _, _⟩) (v := ?v2qbz) rfl (by kernel_rfl) (by kernel_rfl) (by kernel_rfl) (fun _ _ _ h => h) (Or.inl ⟨by rfl, ?y2qbz⟩) hHeld ?r2qbz
    case y2qbz => ((intro w hSw); (try dsimp only at hSw); go_simp; try with_reducible rfl)
    try simp only [Act.put, List.setIfInBounds_toArray, List.set_cons_zero, List.set_cons_succ]
    refine wpAnyH_take (i := 4) (oi := ⟨some 15, _, _, _, _, _⟩) (v := ?v4qbz) rfl (by kernel_rfl) (by kernel_rfl) (by kernel_rfl) (fun _ _ _ h => h) (Or.inl ⟨by rfl, ?y4qbz⟩) hHeld ?r4qbz
    case y4qbz => ((intro w hSw); (try dsimp only at hSw); go_simp; try with_reducible rfl)
    try simp only [Act.put, List.setIfInBounds_toArray, List.set_cons_zero, List.set_cons_succ]
    refine wpAnyH_ready (rs := [3, 5]) (by kernel_rfl) (by simp) (AllReadyH.cons (o := ⟨some 14, _, _, _, _, _⟩) rfl (fun K hK => ?_) (AllReadyH.cons (o := ⟨some 16, _, _, _, _, _⟩) rfl (fun K hK => ?_) AllReadyH.nil))
    · go_simp
      refine hK.out _ _ trivial (fun hHeld => ?_)
      clear hK K
      try simp only [Act.put, List.setIfInBounds_toArray, List.set_cons_zero, List.set_cons_succ]
      refine wpAnyH_ready (rs := [5]) (by kernel_rfl) (by simp) (AllReadyH.cons (o := ⟨some 16, _, _, _, _, _⟩) rfl (fun K hK => ?_) AllReadyH.nil)
      go_simp
      refine HN2.out.mono ?_
      rintro e w3 ⟨rfl, k2, rfl⟩
      have hR3 := Lib.hid (show ((w2.drew.setCell ⟨g, 17, none⟩ (.int .i64 ((p + 1 + 1 : Nat) : Int))).drewN k2).heap[g]? = _ from heap_set HR2.out)
      have hC3 := Lib.hid (show Chg [g] w ((w2.drew.setCell ⟨g, 17, none⟩ (.int .i64 ((p + 1 + 1 : Nat) : Int))).drewN k2) from (((HC2.out.drew).set (.inl (by simp)) 17 _).drewN k2))
      generalize (w2.drew.setCell ⟨g, 17, none⟩ (.int .i64 ((p + 1 + 1 : Nat) : Int))).drewN k2 = w3 at *
      have e19 := hp_cell (j := 19) hR3.out K19.out
      have f19 := hp_froz hR3.out 19
      try go_wp2_with fail
      refine hK.out _ _ trivial (fun hHeld => ?_)
      clear hK K
      try simp only [Act.put, List.setIfInBounds_toArray, List.set_cons_zero, List.set_cons_succ]
      refine wpAnyH_take (i := 6) (oi := ⟨some 17, _, _, _, _, _⟩) (v := ?v6qbza) rfl (by kernel_rfl) (by kernel_rfl) (by kernel_rfl) (fun _ _ _ h => h) (Or.inl ⟨by rfl, ?y6qbza⟩) hHeld ?r6qbza
      case y6qbza => ((intro w hSw); (try dsimp only at hSw); go_simp; try with_reducible rfl)
      try simp only [Act.put, List.setIfInBounds_toArray, List.set_cons_zero, List.set_cons_succ]
      refine wpAnyH_take (i := 7) (oi := ⟨some 18, _, _, _, _, _⟩) (v := ?v7qbza) rfl (by kernel_rfl) (by kernel_rfl) (by kernel_rfl) (fun _ _ _ h => h) (Or.inl ⟨by rfl, ?y7qbza⟩) hHeld ?r7qbza
      case y7qbza => ((intro w hSw); (try dsimp only at hSw); go_simp; try with_reducible rfl)
      try simp only [Act.put, List.setIfInBounds_toArray, List.set_cons_zero, List.set_cons_succ]
      refine wpAnyH_take (i := 8) (oi := ⟨some 19, _, _, _, _, _⟩) (v := ?v8qbza) rfl (by kernel_rfl) (by kernel_rfl) (by kernel_rfl) (fun _ _ _ h => h) (Or.inl ⟨by rfl, ?y8qbza⟩) hHeld ?r8qbza
      case y8qbza => ((intro w hSw); (try dsimp only at hSw); go_simp; try with_reducible rfl)
      try simp only [Act.put, List.setIfInBounds_toArray, List.set_cons_zero, List.set_cons_succ]
      refine wpAnyH_ready (rs := [9]) (by kernel_rfl) (by simp) (AllReadyH.cons (o := ⟨none, _, _, _, _, _⟩) rfl (fun K hK => ?_) AllReadyH.nil)
      go_simp
      refine hK.out _ _ trivial (fun hHeld => ?_)
      clear hK K
      try simp only [Act.put, List.setIfInBounds_toArray, List.set_cons_zero, List.set_cons_succ]
      refine wpAnyH_done (by kernel_rfl) ?_ _
      have hR4 := heap_set (i := 19) (x := .int .i64 ((y : Int) + (dq : Int))) hR3.out
      have HC4 := Lib.hid (hC3.out.set (g := g) (.inl (by simp)) 19 (.int .i64 ((y : Int) + (dq : Int))))
      have HR4 := Lib.hid hR4
      clear e19 f19 c19 hR3 hC3 hR4
      generalize w3.setCell ⟨g, 19, none⟩ (.int .i64 ((y : Int) + (dq : Int))) = w4 at *
      have c3 := hp_cell (j := 3) HR4.out M3.out
      have c4 := hp_cell (j := 4) HR4.out M4.out
      have c18 := hp_cell (j := 18) HR4.out M18.out
      have c19 := hp_cell (j := 19) HR4.out M19.out
      go_upto_region 2 with fail
      refine wp_region_still_tail 20 (by kernel_rfl) (by kernel_rfl) ?_
      simp only [List.take_succ_cons, List.take_zero, List.drop_succ_cons, List.drop_zero]
      repeat (with_reducible refine wpStill_step (fun K hK => ?_); go_simp; with_reducible refine hK _ ?_; clear hK K)
      with_reducible refine wpStill_nil ?_
      change wpList _ _ _ _ _ w4.drew
      go_wp2_with fail
      refine (bmust_no 4 _).mono ?_
      rintro e w9 ⟨hq, rfl⟩
      obtain rfl := hq
      go_wp2_with fail
      exact ⟨rfl, rfl, HC4.out.drew⟩
    · go_simp
      refine HN2.out.mono ?_
      rintro e w3 ⟨rfl, k2, rfl⟩
      have hR3 := Lib.hid (show ((w2.drew.setCell ⟨g, 17, none⟩ (.int .i64 ((p + 1 + 1 : Nat) : Int))).drewN k2).heap[g]? = _ from heap_set HR2.out)
      have hC3 := Lib.hid (show Chg [g] w ((w2.drew.setCell ⟨g, 17, none⟩ (.int .i64 ((p + 1 + 1 : Nat) : Int))).drewN k2) from (((HC2.out.drew).set (.inl (by simp)) 17 _).drewN k2))
      generalize (w2.drew.setCell ⟨g, 17, none⟩ (.int .i64 ((p + 1 + 1 : Nat) : Int))).drewN k2 = w3 at *
      have e19 := hp_cell (j := 19) hR3.out K19.out
      have f19 := hp_froz hR3.out 19
      try go_wp2_with fail
      refine hK.out _ _ trivial (fun hHeld => ?_)
      clear hK K
      try simp only [Act.put, List.setIfInBounds_toArray, List.set_cons_zero, List.set_cons_succ]
      refine wpAnyH_ready (rs := [3]) (by kernel_rfl) (by simp) (AllReadyH.cons (o := ⟨some 14, _, _, _, _, _⟩) rfl (fun K hK => ?_) AllReadyH.nil)
      go_simp
      refine hK.out _ _ trivial (fun hHeld => ?_)
      clear hK K
      try simp only [Act.put, List.setIfInBounds_toArray, List.set_cons_zero, List.set_cons_succ]
      refine wpAnyH_take (i := 6) (oi := ⟨some 17, _, _, _, _, _⟩) (v := ?v6qbzb) rfl (by kernel_rfl) (by kernel_rfl) (by kernel_rfl) (fun _ _ _ h => h) (Or.inl ⟨by rfl, ?y6qbzb⟩) hHeld ?r6qbzb
      case y6qbzb => ((intro w hSw); (try dsimp only at hSw); go_simp; try with_reducible rfl)
      try simp only [Act.put, List.setIfInBounds_toArray, List.set_cons_zero, List.set_cons_succ]
      refine wpAnyH_take (i := 7) (oi := ⟨some 18, _, _, _, _, _⟩) (v := ?v7qbzb) rfl (by kernel_rfl) (by kernel_rfl) (by kernel_rfl) (fun _ _ _ h => h) (Or.inl ⟨by rfl, ?y7qbzb⟩) hHeld ?r7qbzb
      case y7qbzb => ((intro w hSw); (try dsimp only at hSw); go_simp; try with_reducible rfl)
      try simp only [Act.put, List.setIfInBounds_toArray, List.set_cons_zero, List.set_cons_succ]
      refine wpAnyH_take (i := 8) (oi := ⟨some 19, _, _, _, _, _⟩) (v := ?v8qbzb) rfl (by kernel_rfl) (by kernel_rfl) (by kernel_rfl) (fun _ _ _ h => h) (Or.inl ⟨by rfl, ?y8qbzb⟩) hHeld ?r8qbzb
      case y8qbzb => ((intro w hSw); (try dsimp only at hSw); go_simp; try with_reducible rfl)
      try simp only [Act.put, List.setIfInBounds_toArray, List.set_cons_zero, List.set_cons_succ]
      refine wpAnyH_ready (rs := [9]) (by kernel_rfl) (by simp) (AllReadyH.cons (o := ⟨none, _, _, _, _, _⟩) rfl (fun K hK => ?_) AllReadyH.nil)
      go_simp
      refine hK.out _ _ trivial (fun hHeld => ?_)
      clear hK K
      try simp only [Act.put, List.setIfInBounds_toArray, List.set_cons_zero, List.set_cons_succ]
      refine wpAnyH_done (by kernel_rfl) ?_ _
      have hR4 := heap_set (i := 19) (x := .int .i64 ((y : Int) + (dq : Int))) hR3.out
      have HC4 := Lib.hid (hC3.out.set (g := g) (.inl (by simp)) 19 (.int .i64 ((y : Int) + (dq : Int))))
      have HR4 := Lib.hid hR4
      clear e19 f19 c19 hR3 hC3 hR4
      generalize w3.setCell ⟨g, 19, none⟩ (.int .i64 ((y : Int) + (dq : Int))) = w4 at *
      have c3 := hp_cell (j := 3) HR4.out M3.out
      have c4 := hp_cell (j := 4) HR4.out M4.out
      have c18 := hp_cell (j := 18) HR4.out M18.out
      have c19 := hp_cell (j := 19) HR4.out M19.out
      go_upto_region 2 with fail
      refine wp_region_still_tail 20 (by kernel_rfl) (by kernel_rfl) ?_
      simp only [List.take_succ_cons, List.take_zero, List.drop_succ_cons, List.drop_zero]
      repeat (with_reducible refine wpStill_step (fun K hK => ?_); go_simp; with_reducible refine hK _ ?_; clear hK K)
      with_reducible refine wpStill_nil ?_
      change wpList _ _ _ _ _ w4.drew
      go_wp2_with fail
      refine (bmust_no 4 _).mono ?_
      rintro e w9 ⟨hq, rfl⟩
      obtain rfl := hq
      go_wp2_with fail
      exact ⟨rfl, rfl, HC4.out.drew⟩
set_option maxRecDepth 100000 in
set_option maxHeartbeats 8000000 in
theorem step_yes (g p m cap x y W H : Nat) (A : Option Addr) (cs : Array Value) (d : Nat → Nat) (hd : ∀ i, d i < 256) (hx : x ≤ 512) (hy : y ≤ 100000000) (hp : p < m) (hp2 : p + 1 < m) (hm : m ≤ 262144) (hout : x + d p ≤ W ∧ y + d (p + 1) < H) (w : World) (hR : w.heap[g]? = some (.cells cs 71 (0, 0))) (q0 : cs[0]? = some (.slice A m cap)) (q3 : cs[3]? = some (.int .i64 (W : Nat))) (q4 : cs[4]? = some (.int .i64 (H : Nat))) (q17 : cs[17]? = some (.int .i64 (p : Nat))) (q18 : cs[18]? = some (.int .i64 (x : Nat))) (q19 : cs[19]? = some (.int .i64 (y : Nat))) (hB : Byt w A m d) (hA : ∀ a, A = some a → a.block ≠ g) :
    Calls Tryd.prog 58 #[.pointer (some ⟨g, 0, none⟩)] w fun e w' => e = .returned (.tuple #[]) ∧ Chg [g] w w' ∧ w'.heap[g]? = some (.cells ((((cs.setIfInBounds 17 (.int .i64 ((p + 1 : Nat) : Int))).setIfInBounds 18 (.int .i64 ((x : Int) + (d p : Int)))).setIfInBounds 17 (.int .i64 ((p + 1 + 1 : Nat) : Int))).setIfInBounds 19 (.int .i64 ((y : Int) + (d (p + 1) : Int)))) 71 (0, 0)) := by
  have HN := Lib.hid (next_yes g p m cap A cs d hd hp hm w.drew hR q0 q17 (hB.below (Below.refl _ w).drew) hA)
  have HR := Lib.hid hR
  have HB := Lib.hid hB
  have HD := Lib.hid hd
  have H18 := Lib.hid (show (cs.setIfInBounds 17 (.int .i64 ((p + 1 : Nat) : Int)))[18]? = _ from (setB_get (by omega)).trans q18)
  have c18 := hp_cell (j := 18) hR q18
  have J0 := Lib.hid (show ((cs.setIfInBounds 17 (.int .i64 ((p + 1 : Nat) : Int))).setIfInBounds 18 (.int .i64 ((x : Int) + (d p : Int))))[0]? = _ from (setB_get (by omega)).trans ((setB_get (by omega)).trans q0))
  have J17 := Lib.hid (show ((cs.setIfInBounds 17 (.int .i64 ((p + 1 : Nat) : Int))).setIfInBounds 18 (.int .i64 ((x : Int) + (d p : Int))))[17]? = _ from (setB_get (by omega)).trans (setB_same q17))
  have J19 := Lib.hid (show ((cs.setIfInBounds 17 (.int .i64 ((p + 1 : Nat) : Int))).setIfInBounds 18 (.int .i64 ((x : Int) + (d p : Int))))[19]? = _ from (setB_get (by omega)).trans ((setB_get (by omega)).trans q19))
  have K19 := Lib.hid (show (((cs.setIfInBounds 17 (.int .i64 ((p + 1 : Nat) : Int))).setIfInBounds 18 (.int .i64 ((x : Int) + (d p : Int)))).setIfInBounds 17 (.int .i64 ((p + 1 + 1 : Nat) : Int)))[19]? = _ from (setB_get (by omega)).trans ((setB_get (by omega)).trans ((setB_get (by omega)).trans q19)))
  have M3 := Lib.hid (show ((((cs.setIfInBounds 17 (.int .i64 ((p + 1 : Nat) : Int))).setIfInBounds 18 (.int .i64 ((x : Int) + (d p : Int)))).setIfInBounds 17 (.int .i64 ((p + 1 + 1 : Nat) : Int))).setIfInBounds 19 (.int .i64 ((y : Int) + (d (p + 1) : Int))))[3]? = _ from (setB_get (by omega)).trans ((setB_get (by omega)).trans ((setB_get (by omega)).trans ((setB_get (by omega)).trans q3))))
  have M4 := Lib.hid (show ((((cs.setIfInBounds 17 (.int .i64 ((p + 1 : Nat) : Int))).setIfInBounds 18 (.int .i64 ((x : Int) + (d p : Int)))).setIfInBounds 17 (.int .i64 ((p + 1 + 1 : Nat) : Int))).setIfInBounds 19 (.int .i64 ((y : Int) + (d (p + 1) : Int))))[4]? = _ from (setB_get (by omega)).trans ((setB_get (by omega)).trans ((setB_get (by omega)).trans ((setB_get (by omega)).trans q4))))
  have M18 := Lib.hid (show ((((cs.setIfInBounds 17 (.int .i64 ((p + 1 : Nat) : Int))).setIfInBounds 18 (.int .i64 ((x : Int) + (d p : Int)))).setIfInBounds 17 (.int .i64 ((p + 1 + 1 : Nat) : Int))).setIfInBounds 19 (.int .i64 ((y : Int) + (d (p + 1) : Int))))[18]? = _ from (setB_get (by omega)).trans ((setB_get (by omega)).trans (setB_same ((setB_get (by omega)).trans q18))))
  have M19 := Lib.hid (show ((((cs.setIfInBounds 17 (.int .i64 ((p + 1 : Nat) : Int))).setIfInBounds 18 (.int .i64 ((x : Int) + (d p : Int)))).setIfInBounds 17 (.int .i64 ((p + 1 + 1 : Nat) : Int))).setIfInBounds 19 (.int .i64 ((y : Int) + (d (p + 1) : Int))))[19]? = _ from setB_same ((setB_get (by omega)).trans ((setB_get (by omega)).trans ((setB_get (by omega)).trans q19))))
  have hdp := hd p
  have hdq := hd (p + 1)
  obtain ⟨dp, hdpe⟩ : ∃ dp, dp = d p := ⟨_, rfl⟩
  obtain ⟨dq, hdqe⟩ : ∃ dq, dq = d (p + 1) := ⟨_, rfl⟩
  have HQ := Lib.hid hdqe.symm
  rw [← hdpe] at HN hdp J0 J17 J19 K19 M3 M4 M18 M19 ⊢
  rw [← hdqe] at hdq M3 M4 M18 M19 ⊢
  rw [← hdpe] at hout
  try rw [← hdqe] at hout
  have xw : IntKind.i64.wrap ((x : Int) + (dp : Int)) = (x : Int) + (dp : Int) := IntWalk.i64_in _ (by omega)
  have yw : IntKind.i64.wrap ((y : Int) + (dq : Int)) = (y : Int) + (dq : Int) := IntWalk.i64_in _ (by omega)
  have t1 : decide ((x : Int) + (dp : Int) ≤ (W : Int)) = true := by simp; omega
  have t2 : decide ((y : Int) + (dq : Int) < (H : Int)) = true := by simp; omega
  clear hR hdpe hdqe hd hB hout
  go_enter Tryd.func58, Tryd.ntmps58
  go_upto_region 0 with fail
  refine wp_region_held_drew (S := fun _ => True) (by kernel_rfl) trivial (fun hHeld => ?_)
  refine wpAnyH_take (i := 0) (oi := ⟨some 2, _, _, _, _, _⟩) (v := ?v0q) rfl (by kernel_rfl) (by kernel_rfl) (by kernel_rfl) (fun _ _ _ h => h) (Or.inl ⟨by rfl, ?y0q⟩) hHeld ?r0q
  case y0q => ((intro w hSw); (try dsimp only at hSw); go_simp; try with_reducible rfl)
  try simp only [Act.put, List.setIfInBounds_toArray, List.set_cons_zero, List.set_cons_succ]
  refine wpAnyH_take (i := 1) (oi := ⟨some 3, _, _, _, _, _⟩) (v := ?v1q) rfl (by kernel_rfl) (by kernel_rfl) (by kernel_rfl) (fun _ _ _ h => h) (Or.inl ⟨by rfl, ?y1q⟩) hHeld ?r1q
  case y1q => ((intro w hSw); (try dsimp only at hSw); go_simp; try with_reducible rfl)
  try simp only [Act.put, List.setIfInBounds_toArray, List.set_cons_zero, List.set_cons_succ]
  refine wpAnyH_take (i := 2) (oi := ⟨some 4, _, _, _, _, _⟩) (v := ?v2q) rfl (by kernel_rfl) (by kernel_rfl) (by kernel_rfl) (fun _ _ _ h => h) (Or.inl ⟨by rfl, ?y2q⟩) hHeld ?r2q
  case y2q => ((intro w hSw); (try dsimp only at hSw); go_simp; try with_reducible rfl)
  try simp only [Act.put, List.setIfInBounds_toArray, List.set_cons_zero, List.set_cons_succ]
  refine wpAnyH_take (i := 4) (oi := ⟨some 6, _, _, _, _, _⟩) (v := ?v4q) rfl (by kernel_rfl) (by kernel_rfl) (by kernel_rfl) (fun _ _ _ h => h) (Or.inl ⟨by rfl, ?y4q⟩) hHeld ?r4q
  case y4q => ((intro w hSw); (try dsimp only at hSw); go_simp; try with_reducible rfl)
  try simp only [Act.put, List.setIfInBounds_toArray, List.set_cons_zero, List.set_cons_succ]
  refine wpAnyH_ready (rs := [3, 5]) (by kernel_rfl) (by simp) (AllReadyH.cons (o := ⟨some 5, _, _, _, _, _⟩) rfl (fun K hK => ?_) (AllReadyH.cons (o := ⟨some 7, _, _, _, _, _⟩) rfl (fun K hK => ?_) AllReadyH.nil))
  · go_simp
    refine hK.out _ _ trivial (fun hHeld => ?_)
    clear hK K
    try simp only [Act.put, List.setIfInBounds_toArray, List.set_cons_zero, List.set_cons_succ]
    refine wpAnyH_ready (rs := [5]) (by kernel_rfl) (by simp) (AllReadyH.cons (o := ⟨some 7, _, _, _, _, _⟩) rfl (fun K hK => ?_) AllReadyH.nil)
    go_simp
    refine HN.out.mono ?_
    rintro e w1 ⟨rfl, k, rfl⟩
    have hR1 := Lib.hid (show ((w.drew.setCell ⟨g, 17, none⟩ (.int .i64 ((p + 1 : Nat) : Int))).drewN k).heap[g]? = _ from heap_set HR.out)
    have hC1 := Lib.hid (show Chg [g] w ((w.drew.setCell ⟨g, 17, none⟩ (.int .i64 ((p + 1 : Nat) : Int))).drewN k) from ((((Chg.refl [g] w).drew).set (.inl (by simp)) 17 _).drewN k))
    generalize (w.drew.setCell ⟨g, 17, none⟩ (.int .i64 ((p + 1 : Nat) : Int))).drewN k = w1 at *
    have e18 := hp_cell (j := 18) hR1.out H18.out
    have f18 := hp_froz hR1.out 18
    try go_wp2_with fail
    refine hK.out _ _ trivial (fun hHeld => ?_)
    clear hK K
    try simp only [Act.put, List.setIfInBounds_toArray, List.set_cons_zero, List.set_cons_succ]
    refine wpAnyH_take (i := 6) (oi := ⟨some 8, _, _, _, _, _⟩) (v := ?v6qa) rfl (by kernel_rfl) (by kernel_rfl) (by kernel_rfl) (fun _ _ _ h => h) (Or.inl ⟨by rfl, ?y6qa⟩) hHeld ?r6qa
    case y6qa => ((intro w hSw); (try dsimp only at hSw); go_simp; try with_reducible rfl)
    try simp only [Act.put, List.setIfInBounds_toArray, List.set_cons_zero, List.set_cons_succ]
    refine wpAnyH_take (i := 7) (oi := ⟨some 9, _, _, _, _, _⟩) (v := ?v7qa) rfl (by kernel_rfl) (by kernel_rfl) (by kernel_rfl) (fun _ _ _ h => h) (Or.inl ⟨by rfl, ?y7qa⟩) hHeld ?r7qa
    case y7qa => ((intro w hSw); (try dsimp only at hSw); go_simp; try with_reducible rfl)
    try simp only [Act.put, List.setIfInBounds_toArray, List.set_cons_zero, List.set_cons_succ]
    refine wpAnyH_take (i := 8) (oi := ⟨some 10, _, _, _, _, _⟩) (v := ?v8qa) rfl (by kernel_rfl) (by kernel_rfl) (by kernel_rfl) (fun _ _ _ h => h) (Or.inl ⟨by rfl, ?y8qa⟩) hHeld ?r8qa
    case y8qa => ((intro w hSw); (try dsimp only at hSw); go_simp; try with_reducible rfl)
    try simp only [Act.put, List.setIfInBounds_toArray, List.set_cons_zero, List.set_cons_succ]
    refine wpAnyH_ready (rs := [9]) (by kernel_rfl) (by simp) (AllReadyH.cons (o := ⟨none, _, _, _, _, _⟩) rfl (fun K hK => ?_) AllReadyH.nil)
    go_simp
    refine hK.out _ _ trivial (fun hHeld => ?_)
    clear hK K
    try simp only [Act.put, List.setIfInBounds_toArray, List.set_cons_zero, List.set_cons_succ]
    refine wpAnyH_done (by kernel_rfl) ?_ _
    have hR2 := heap_set (i := 18) (x := .int .i64 ((x : Int) + (dp : Int))) hR1.out
    have HC2 := Lib.hid (hC1.out.set (g := g) (.inl (by simp)) 18 (.int .i64 ((x : Int) + (dp : Int))))
    have HR2 := Lib.hid hR2
    clear e18 f18 hR1 hC1 hR2
    generalize w1.setCell ⟨g, 18, none⟩ (.int .i64 ((x : Int) + (dp : Int))) = w2 at *
    have c19 := hp_cell (j := 19) HR2.out J19.out
    have HN2 := Lib.hid (next_yes g (p + 1) m cap A _ d HD.out hp2 hm w2.drew HR2.out J0.out J17.out (HB.out.chg (S := [g]) HC2.out.drew (fun _ a ha => by simp; exact hA a ha)) hA)
    rw [HQ.out] at HN2
    go_upto_region 1 with fail
    refine wp_region_held_drew (S := fun _ => True) (by kernel_rfl) trivial (fun hHeld => ?_)
    refine wpAnyH_take (i := 0) (oi := ⟨some 11, _, _, _, _, _⟩) (v := ?v0qaz) rfl (by kernel_rfl) (by kernel_rfl) (by kernel_rfl) (fun _ _ _ h => h) (Or.inl ⟨by rfl, ?y0qaz⟩) hHeld ?r0qaz
    case y0qaz => ((intro w hSw); (try dsimp only at hSw); go_simp; try with_reducible rfl)
    try simp only [Act.put, List.setIfInBounds_toArray, List.set_cons_zero, List.set_cons_succ]
    refine wpAnyH_take (i := 1) (oi := ⟨some 12, _, _, _, _, _⟩) (v := ?v1qaz) rfl (by kernel_rfl) (by kernel_rfl) (by kernel_rfl) (fun _ _ _ h => h) (Or.inl ⟨by rfl, ?y1qaz⟩) hHeld ?r1qaz
    case y1qaz => ((intro w hSw); (try dsimp only at hSw); go_simp; try with_reducible rfl)
    try simp only [Act.put, List.setIfInBounds_toArray, List.set_cons_zero, List.set_cons_succ]
    refine wpAnyH_take (i := 2) (oi := ⟨some 13, _, _, _, _, _⟩) (v := ?v2qaz) rfl (by kernel_rfl) (by kernel_rfl) (by kernel_rfl) (fun _ _ _ h => h) (Or.inl ⟨by rfl, ?y2qaz⟩) hHeld ?r2qaz
    case y2qaz => ((intro w hSw); (try dsimp only at hSw); go_simp; try with_reducible rfl)
    try simp only [Act.put, List.setIfInBounds_toArray, List.set_cons_zero, List.set_cons_succ]
    refine wpAnyH_take (i := 4) (oi := ⟨some 15, _, _, _, _, _⟩) (v := ?v4qaz) rfl (by kernel_rfl) (by kernel_rfl) (by kernel_rfl) (fun _ _ _ h => h) (Or.inl ⟨by rfl, ?y4qaz⟩) hHeld ?r4qaz
    case y4qaz => ((intro w hSw); (try dsimp only at hSw); go_simp; try with_reducible rfl)
    try simp only [Act.put, List.setIfInBounds_toArray, List.set_cons_zero, List.set_cons_succ]
    refine wpAnyH_ready (rs := [3, 5]) (by kernel_rfl) (by simp) (AllReadyH.cons (o := ⟨some 14, _, _, _, _, _⟩) rfl (fun K hK => ?_) (AllReadyH.cons (o := ⟨some 16, _, _, _, _, _⟩) rfl (fun K hK => ?_) AllReadyH.nil))
    · go_simp
      refine hK.out _ _ trivial (fun hHeld => ?_)
      clear hK K
      try simp only [Act.put, List.setIfInBounds_toArray, List.set_cons_zero, List.set_cons_succ]
      refine wpAnyH_ready (rs := [5]) (by kernel_rfl) (by simp) (AllReadyH.cons (o := ⟨some 16, _, _, _, _, _⟩) rfl (fun K hK => ?_) AllReadyH.nil)
      go_simp
      refine HN2.out.mono ?_
      rintro e w3 ⟨rfl, k2, rfl⟩
      have hR3 := Lib.hid (show ((w2.drew.setCell ⟨g, 17, none⟩ (.int .i64 ((p + 1 + 1 : Nat) : Int))).drewN k2).heap[g]? = _ from heap_set HR2.out)
      have hC3 := Lib.hid (show Chg [g] w ((w2.drew.setCell ⟨g, 17, none⟩ (.int .i64 ((p + 1 + 1 : Nat) : Int))).drewN k2) from (((HC2.out.drew).set (.inl (by simp)) 17 _).drewN k2))
      generalize (w2.drew.setCell ⟨g, 17, none⟩ (.int .i64 ((p + 1 + 1 : Nat) : Int))).drewN k2 = w3 at *
      have e19 := hp_cell (j := 19) hR3.out K19.out
      have f19 := hp_froz hR3.out 19
      try go_wp2_with fail
      refine hK.out _ _ trivial (fun hHeld => ?_)
      clear hK K
      try simp only [Act.put, List.setIfInBounds_toArray, List.set_cons_zero, List.set_cons_succ]
      refine wpAnyH_take (i := 6) (oi := ⟨some 17, _, _, _, _, _⟩) (v := ?v6qaza) rfl (by kernel_rfl) (by kernel_rfl) (by kernel_rfl) (fun _ _ _ h => h) (Or.inl ⟨by rfl, ?y6qaza⟩) hHeld ?r6qaza
      case y6qaza => ((intro w hSw); (try dsimp only at hSw); go_simp; try with_reducible rfl)
      try simp only [Act.put, List.setIfInBounds_toArray, List.set_cons_zero, List.set_cons_succ]
      refine wpAnyH_take (i := 7) (oi := ⟨some 18, _, _, _, _, _⟩) (v := ?v7qaza) rfl (by kernel_rfl) (by kernel_rfl) (by kernel_rfl) (fun _ _ _ h => h) (Or.inl ⟨by rfl, ?y7qaza⟩) hHeld ?r7qaza
      case y7qaza => ((intro w hSw); (try dsimp only at hSw); go_simp; try with_reducible rfl)
      try simp only [Act.put, List.setIfInBounds_toArray, List.set_cons_zero, List.set_cons_succ]
      refine wpAnyH_take (i := 8) (oi := ⟨some 19, _, _, _, _, _⟩) (v := ?v8qaza) rfl (by kernel_rfl) (by kernel_rfl) (by kernel_rfl) (fun _ _ _ h => h) (Or.inl ⟨by rfl, ?y8qaza⟩) hHeld ?r8qaza
      case y8qaza => ((intro w hSw); (try dsimp only at hSw); go_simp; try with_reducible rfl)
      try simp only [Act.put, List.setIfInBounds_toArray, List.set_cons_zero, List.set_cons_succ]
      refine wpAnyH_ready (rs := [9]) (by kernel_rfl) (by simp) (AllReadyH.cons (o := ⟨none, _, _, _, _, _⟩) rfl (fun K hK => ?_) AllReadyH.nil)
      go_simp
      refine hK.out _ _ trivial (fun hHeld => ?_)
      clear hK K
      try simp only [Act.put, List.setIfInBounds_toArray, List.set_cons_zero, List.set_cons_succ]
      refine wpAnyH_done (by kernel_rfl) ?_ _
      have hR4 := heap_set (i := 19) (x := .int .i64 ((y : Int) + (dq : Int))) hR3.out
      have HC4 := Lib.hid (hC3.out.set (g := g) (.inl (by simp)) 19 (.int .i64 ((y : Int) + (dq : Int))))
      have HR4 := Lib.hid hR4
      clear e19 f19 c19 hR3 hC3 hR4
      generalize w3.setCell ⟨g, 19, none⟩ (.int .i64 ((y : Int) + (dq : Int))) = w4 at *
      have c3 := hp_cell (j := 3) HR4.out M3.out
      have c4 := hp_cell (j := 4) HR4.out M4.out
      have c18 := hp_cell (j := 18) HR4.out M18.out
      have c19 := hp_cell (j := 19) HR4.out M19.out
      go_upto_region 2 with fail
      refine wp_region_still_tail 20 (by kernel_rfl) (by kernel_rfl) ?_
      simp only [List.take_succ_cons, List.take_zero, List.drop_succ_cons, List.drop_zero]
      repeat (with_reducible refine wpStill_step (fun K hK => ?_); go_simp; with_reducible refine hK _ ?_; clear hK K)
      with_reducible refine wpStill_nil ?_
      change wpList _ _ _ _ _ w4.drew
      go_wp2_with fail
      refine (bmust_yes 4 _).mono ?_
      rintro e w9 ⟨rfl, rfl⟩
      go_wp2_with fail
      go_end0
      exact ⟨rfl, HC4.out.drew, HR4.out⟩
    · go_simp
      refine HN2.out.mono ?_
      rintro e w3 ⟨rfl, k2, rfl⟩
      have hR3 := Lib.hid (show ((w2.drew.setCell ⟨g, 17, none⟩ (.int .i64 ((p + 1 + 1 : Nat) : Int))).drewN k2).heap[g]? = _ from heap_set HR2.out)
      have hC3 := Lib.hid (show Chg [g] w ((w2.drew.setCell ⟨g, 17, none⟩ (.int .i64 ((p + 1 + 1 : Nat) : Int))).drewN k2) from (((HC2.out.drew).set (.inl (by simp)) 17 _).drewN k2))
      generalize (w2.drew.setCell ⟨g, 17, none⟩ (.int .i64 ((p + 1 + 1 : Nat) : Int))).drewN k2 = w3 at *
      have e19 := hp_cell (j := 19) hR3.out K19.out
      have f19 := hp_froz hR3.out 19
      try go_wp2_with fail
      refine hK.out _ _ trivial (fun hHeld => ?_)
      clear hK K
      try simp only [Act.put, List.setIfInBounds_toArray, List.set_cons_zero, List.set_cons_succ]
      refine wpAnyH_ready (rs := [3]) (by kernel_rfl) (by simp) (AllReadyH.cons (o := ⟨some 14, _, _, _, _, _⟩) rfl (fun K hK => ?_) AllReadyH.nil)
      go_simp
      refine hK.out _ _ trivial (fun hHeld => ?_)
      clear hK K
      try simp only [Act.put, List.setIfInBounds_toArray, List.set_cons_zero, List.set_cons_succ]
      refine wpAnyH_take (i := 6) (oi := ⟨some 17, _, _, _, _, _⟩) (v := ?v6qazb) rfl (by kernel_rfl) (by kernel_rfl) (by kernel_rfl) (fun _ _ _ h => h) (Or.inl ⟨by rfl, ?y6qazb⟩) hHeld ?r6qazb
      case y6qazb => ((intro w hSw); (try dsimp only at hSw); go_simp; try with_reducible rfl)
      try simp only [Act.put, List.setIfInBounds_toArray, List.set_cons_zero, List.set_cons_succ]
      refine wpAnyH_take (i := 7) (oi := ⟨some 18, _, _, _, _, _⟩) (v := ?v7qazb) rfl (by kernel_rfl) (by kernel_rfl) (by kernel_rfl) (fun _ _ _ h => h) (Or.inl ⟨by rfl, ?y7qazb⟩) hHeld ?r7qazb
      case y7qazb => ((intro w hSw); (try dsimp only at hSw); go_simp; try with_reducible rfl)
      try simp only [Act.put, List.setIfInBounds_toArray, List.set_cons_zero, List.set_cons_succ]
      refine wpAnyH_take (i := 8) (oi := ⟨some 19, _, _, _, _, _⟩) (v := ?v8qazb) rfl (by kernel_rfl) (by kernel_rfl) (by kernel_rfl) (fun _ _ _ h => h) (Or.inl ⟨by rfl, ?y8qazb⟩) hHeld ?r8qazb
      case y8qazb => ((intro w hSw); (try dsimp only at hSw); go_simp; try with_reducible rfl)
      try simp only [Act.put, List.setIfInBounds_toArray, List.set_cons_zero, List.set_cons_succ]
      refine wpAnyH_ready (rs := [9]) (by kernel_rfl) (by simp) (AllReadyH.cons (o := ⟨none, _, _, _, _, _⟩) rfl (fun K hK => ?_) AllReadyH.nil)
      go_simp
      refine hK.out _ _ trivial (fun hHeld => ?_)
      clear hK K
      try simp only [Act.put, List.setIfInBounds_toArray, List.set_cons_zero, List.set_cons_succ]
      refine wpAnyH_done (by kernel_rfl) ?_ _
      have hR4 := heap_set (i := 19) (x := .int .i64 ((y : Int) + (dq : Int))) hR3.out
      have HC4 := Lib.hid (hC3.out.set (g := g) (.inl (by simp)) 19 (.int .i64 ((y : Int) + (dq : Int))))
      have HR4 := Lib.hid hR4
      clear e19 f19 c19 hR3 hC3 hR4
      generalize w3.setCell ⟨g, 19, none⟩ (.int .i64 ((y : Int) + (dq : Int))) = w4 at *
      have c3 := hp_cell (j := 3) HR4.out M3.out
      have c4 := hp_cell (j := 4) HR4.out M4.out
      have c18 := hp_cell (j := 18) HR4.out M18.out
      have c19 := hp_cell (j := 19) HR4.out M19.out
      go_upto_region 2 with fail
      refine wp_region_still_tail 20 (by kernel_rfl) (by kernel_rfl) ?_
      simp only [List.take_succ_cons, List.take_zero, List.drop_succ_cons, List.drop_zero]
      repeat (with_reducible refine wpStill_step (fun K hK => ?_); go_simp; with_reducible refine hK _ ?_; clear hK K)
      with_reducible refine wpStill_nil ?_
      change wpList _ _ _ _ _ w4.drew
      go_wp2_with fail
      refine (bmust_yes 4 _).mono ?_
      rintro e w9 ⟨rfl, rfl⟩
      go_wp2_with fail
      go_end0
      exact ⟨rfl, HC4.out.drew, HR4.out⟩
  · go_simp
    refine HN.out.mono ?_
    rintro e w1 ⟨rfl, k, rfl⟩
    have hR1 := Lib.hid (show ((w.drew.setCell ⟨g, 17, none⟩ (.int .i64 ((p + 1 : Nat) : Int))).drewN k).heap[g]? = _ from heap_set HR.out)
    have hC1 := Lib.hid (show Chg [g] w ((w.drew.setCell ⟨g, 17, none⟩ (.int .i64 ((p + 1 : Nat) : Int))).drewN k) from ((((Chg.refl [g] w).drew).set (.inl (by simp)) 17 _).drewN k))
    generalize (w.drew.setCell ⟨g, 17, none⟩ (.int .i64 ((p + 1 : Nat) : Int))).drewN k = w1 at *
    have e18 := hp_cell (j := 18) hR1.out H18.out
    have f18 := hp_froz hR1.out 18
    try go_wp2_with fail
    refine hK.out _ _ trivial (fun hHeld => ?_)
    clear hK K
    try simp only [Act.put, List.setIfInBounds_toArray, List.set_cons_zero, List.set_cons_succ]
    refine wpAnyH_ready (rs := [3]) (by kernel_rfl) (by simp) (AllReadyH.cons (o := ⟨some 5, _, _, _, _, _⟩) rfl (fun K hK => ?_) AllReadyH.nil)
    go_simp
    refine hK.out _ _ trivial (fun hHeld => ?_)
    clear hK K
    try simp only [Act.put, List.setIfInBounds_toArray, List.set_cons_zero, List.set_cons_succ]
    refine wpAnyH_take (i := 6) (oi := ⟨some 8, _, _, _, _, _⟩) (v := ?v6qb) rfl (by kernel_rfl) (by kernel_rfl) (by kernel_rfl) (fun _ _ _ h => h) (Or.inl ⟨by rfl, ?y6qb⟩) hHeld ?r6qb
    case y6qb => ((intro w hSw); (try dsimp only at hSw); go_simp; try with_reducible rfl)
    try simp only [Act.put, List.setIfInBounds_toArray, List.set_cons_zero, List.set_cons_succ]
    refine wpAnyH_take (i := 7) (oi := ⟨some 9, _, _, _, _, _⟩) (v := ?v7qb) rfl (by kernel_rfl) (by kernel_rfl) (by kernel_rfl) (fun _ _ _ h => h) (Or.inl ⟨by rfl, ?y7qb⟩) hHeld ?r7qb
    case y7qb => ((intro w hSw); (try dsimp only at hSw); go_simp; try with_reducible rfl)
    try simp only [Act.put, List.setIfInBounds_toArray, List.set_cons_zero, List.set_cons_succ]
    refine wpAnyH_take (i := 8) (oi := ⟨some 10, _, _, _, _, _⟩) (v := ?v8qb) rfl (by kernel_rfl) (by kernel_rfl) (by kernel_rfl) (fun _ _ _ h => h) (Or.inl ⟨by rfl, ?y8qb⟩) hHeld ?r8qb
    case y8qb => ((intro w hSw); (try dsimp only at hSw); go_simp; try with_reducible rfl)
    try simp only [Act.put, List.setIfInBounds_toArray, List.set_cons_zero, List.set_cons_succ]
    refine wpAnyH_ready (rs := [9]) (by kernel_rfl) (by simp) (AllReadyH.cons (o := ⟨none, _, _, _, _, _⟩) rfl (fun K hK => ?_) AllReadyH.nil)
    go_simp
    refine hK.out _ _ trivial (fun hHeld => ?_)
    clear hK K
    try simp only [Act.put, List.setIfInBounds_toArray, List.set_cons_zero, List.set_cons_succ]
    refine wpAnyH_done (by kernel_rfl) ?_ _
    have hR2 := heap_set (i := 18) (x := .int .i64 ((x : Int) + (dp : Int))) hR1.out
    have HC2 := Lib.hid (hC1.out.set (g := g) (.inl (by simp)) 18 (.int .i64 ((x : Int) + (dp : Int))))
    have HR2 := Lib.hid hR2
    clear e18 f18 hR1 hC1 hR2
    generalize w1.setCell ⟨g, 18, none⟩ (.int .i64 ((x : Int) + (dp : Int))) = w2 at *
    have c19 := hp_cell (j := 19) HR2.out J19.out
    have HN2 := Lib.hid (next_yes g (p + 1) m cap A _ d HD.out hp2 hm w2.drew HR2.out J0.out J17.out (HB.out.chg (S := [g]) HC2.out.drew (fun _ a ha => by simp; exact hA a ha)) hA)
    rw [HQ.out] at HN2
    go_upto_region 1 with fail
    refine wp_region_held_drew (S := fun _ => True) (by kernel_rfl) trivial (fun hHeld => ?_)
    refine wpAnyH_take (i := 0) (oi := ⟨some 11, _, _, _, _, _⟩) (v := ?v0qbz) rfl (by kernel_rfl) (by kernel_rfl) (by kernel_rfl) (fun _ _ _ h => h) (Or.inl ⟨by rfl, ?y0qbz⟩) hHeld ?r0qbz
    case y0qbz => ((intro w hSw); (try dsimp only at hSw); go_simp; try with_reducible rfl)
    try simp only [Act.put, List.setIfInBounds_toArray, List.set_cons_zero, List.set_cons_succ]
    refine wpAnyH_take (i := 1) (oi := ⟨some 12, _, _, _, _, _⟩) (v := ?v1qbz) rfl (by kernel_rfl) (by kernel_rfl) (by kernel_rfl) (fun _ _ _ h => h) (Or.inl ⟨by rfl, ?y1qbz⟩) hHeld ?r1qbz
    case y1qbz => ((intro w hSw); (try dsimp only at hSw); go_simp; try with_reducible rfl)
    try simp only [Act.put, List.setIfInBounds_toArray, List.set_cons_zero, List.set_cons_succ]
    refine wpAnyH_take (i := 2) (oi := ⟨some 13, _, _, _, _, _⟩) (v := ?v2qbz) rfl (by kernel_rfl) (by kernel_rfl) (by kernel_rfl) (fun _ _ _ h => h) (Or.inl ⟨by rfl, ?y2qbz⟩) hHeld ?r2qbz
    case y2qbz => ((intro w hSw); (try dsimp only at hSw); go_simp; try with_reducible rfl)
    try simp only [Act.put, List.setIfInBounds_toArray, List.set_cons_zero, List.set_cons_succ]
    refine wpAnyH_take (i := 4) (oi := ⟨some 15, _, _, _, _, _⟩) (v := ?v4qbz) rfl (by kernel_rfl) (by kernel_rfl) (by kernel_rfl) (fun _ _ _ h => h) (Or.inl ⟨by rfl, ?y4qbz⟩) hHeld ?r4qbz
    case y4qbz => ((intro w hSw); (try dsimp only at hSw); go_simp; try with_reducible rfl)
    try simp only [Act.put, List.setIfInBounds_toArray, List.set_cons_zero, List.set_cons_succ]
    refine wpAnyH_ready (rs := [3, 5]) (by kernel_rfl) (by simp) (AllReadyH.cons (o := ⟨some 14, _, _, _, _, _⟩) rfl (fun K hK => ?_) (AllReadyH.cons (o := ⟨some 16, _, _, _, _, _⟩) rfl (fun K hK => ?_) AllReadyH.nil))
    · go_simp
      refine hK.out _ _ trivial (fun hHeld => ?_)
      clear hK K
      try simp only [Act.put, List.setIfInBounds_toArray, List.set_cons_zero, List.set_cons_succ]
      refine wpAnyH_ready (rs := [5]) (by kernel_rfl) (by simp) (AllReadyH.cons (o := ⟨some 16, _, _, _, _, _⟩) rfl (fun K hK => ?_) AllReadyH.nil)
      go_simp
      refine HN2.out.mono ?_
      rintro e w3 ⟨rfl, k2, rfl⟩
      have hR3 := Lib.hid (show ((w2.drew.setCell ⟨g, 17, none⟩ (.int .i64 ((p + 1 + 1 : Nat) : Int))).drewN k2).heap[g]? = _ from heap_set HR2.out)
      have hC3 := Lib.hid (show Chg [g] w ((w2.drew.setCell ⟨g, 17, none⟩ (.int .i64 ((p + 1 + 1 : Nat) : Int))).drewN k2) from (((HC2.out.drew).set (.inl (by simp)) 17 _).drewN k2))
      generalize (w2.drew.setCell ⟨g, 17, none⟩ (.int .i64 ((p + 1 + 1 : Nat) : Int))).drewN k2 = w3 at *
      have e19 := hp_cell (j := 19) hR3.out K19.out
      have f19 := hp_froz hR3.out 19
      try go_wp2_with fail
      refine hK.out _ _ trivial (fun hHeld => ?_)
      clear hK K
      try simp only [Act.put, List.setIfInBounds_toArray, List.set_cons_zero, List.set_cons_succ]
      refine wpAnyH_take (i := 6) (oi := ⟨some 17, _, _, _, _, _⟩) (v := ?v6qbza) rfl (by kernel_rfl) (by kernel_rfl) (by kernel_rfl) (fun _ _ _ h => h) (Or.inl ⟨by rfl, ?y6qbza⟩) hHeld ?r6qbza
      case y6qbza => ((intro w hSw); (try dsimp only at hSw); go_simp; try with_reducible rfl)
      try simp only [Act.put, List.setIfInBounds_toArray, List.set_cons_zero, List.set_cons_succ]
      refine wpAnyH_take (i := 7) (oi := ⟨some 18, _, _, _, _, _⟩) (v := ?v7qbza) rfl (by kernel_rfl) (by kernel_rfl) (by kernel_rfl) (fun _ _ _ h => h) (Or.inl ⟨by rfl, ?y7qbza⟩) hHeld ?r7qbza
      case y7qbza => ((intro w hSw); (try dsimp only at hSw); go_simp; try with_reducible rfl)
      try simp only [Act.put, List.setIfInBounds_toArray, List.set_cons_zero, List.set_cons_succ]
      refine wpAnyH_take (i := 8) (oi := ⟨some 19, _, _, _, _, _⟩) (v := ?v8qbza) rfl (by kernel_rfl) (by kernel_rfl) (by kernel_rfl) (fun _ _ _ h => h) (Or.inl ⟨by rfl, ?y8qbza⟩) hHeld ?r8qbza
      case y8qbza => ((intro w hSw); (try dsimp only at hSw); go_simp; try with_reducible rfl)
      try simp only [Act.put, List.setIfInBounds_toArray, List.set_cons_zero, List.set_cons_succ]
      refine wpAnyH_ready (rs := [9]) (by kernel_rfl) (by simp) (AllReadyH.cons (o := ⟨none, _, _, _, _, _⟩) rfl (fun K hK => ?_) AllReadyH.nil)
      go_simp
      refine hK.out _ _ trivial (fun hHeld => ?_)
      clear hK K
      try simp only [Act.put, List.setIfInBounds_toArray, List.set_cons_zero, List.set_cons_succ]
      refine wpAnyH_done (by kernel_rfl) ?_ _
      have hR4 := heap_set (i := 19) (x := .int .i64 ((y : Int) + (dq : Int))) hR3.out
      have HC4 := Lib.hid (hC3.out.set (g := g) (.inl (by simp)) 19 (.int .i64 ((y : Int) + (dq : Int))))
      have HR4 := Lib.hid hR4
      clear e19 f19 c19 hR3 hC3 hR4
      generalize w3.setCell ⟨g, 19, none⟩ (.int .i64 ((y : Int) + (dq : Int))) = w4 at *
      have c3 := hp_cell (j := 3) HR4.out M3.out
      have c4 := hp_cell (j := 4) HR4.out M4.out
      have c18 := hp_cell (j := 18) HR4.out M18.out
      have c19 := hp_cell (j := 19) HR4.out M19.out
      go_upto_region 2 with fail
      refine wp_region_still_tail 20 (by kernel_rfl) (by kernel_rfl) ?_
      simp only [List.take_succ_cons, List.take_zero, List.drop_succ_cons, List.drop_zero]
      repeat (with_reducible refine wpStill_step (fun K hK => ?_); go_simp; with_reducible refine hK _ ?_; clear hK K)
      with_reducible refine wpStill_nil ?_
      change wpList _ _ _ _ _ w4.drew
      go_wp2_with fail
      refine (bmust_yes 4 _).mono ?_
      rintro e w9 ⟨rfl, rfl⟩
      go_wp2_with fail
      go_end0
      exact ⟨rfl, HC4.out.drew, HR4.out⟩
    · go_simp
      refine HN2.out.mono ?_
      rintro e w3 ⟨rfl, k2, rfl⟩
      have hR3 := Lib.hid (show ((w2.drew.setCell ⟨g, 17, none⟩ (.int .i64 ((p + 1 + 1 : Nat) : Int))).drewN k2).heap[g]? = _ from heap_set HR2.out)
      have hC3 := Lib.hid (show Chg [g] w ((w2.drew.setCell ⟨g, 17, none⟩ (.int .i64 ((p + 1 + 1 : Nat) : Int))).drewN k2) from (((HC2.out.drew).set (.inl (by simp)) 17 _).drewN k2))
      generalize (w2.drew.setCell ⟨g, 17, none⟩ (.int .i64 ((p + 1 + 1 : Nat) : Int))).drewN k2 = w3 at *
      have e19 := hp_cell (j := 19) hR3.out K19.out
      have f19 := hp_froz hR3.out 19
      try go_wp2_with fail
      refine hK.out _ _ trivial (fun hHeld => ?_)
      clear hK K
      try simp only [Act.put, List.setIfInBounds_toArray, List.set_cons_zero, List.set_cons_succ]
      refine wpAnyH_ready (rs := [3]) (by kernel_rfl) (by simp) (AllReadyH.cons (o := ⟨some 14, _, _, _, _, _⟩) rfl (fun K hK => ?_) AllReadyH.nil)
      go_simp
      refine hK.out _ _ trivial (fun hHeld => ?_)
      clear hK K
      try simp only [Act.put, List.setIfInBounds_toArray, List.set_cons_zero, List.set_cons_succ]
      refine wpAnyH_take (i := 6) (oi := ⟨some 17, _, _, _, _, _⟩) (v := ?v6qbzb) rfl (by kernel_rfl) (by kernel_rfl) (by kernel_rfl) (fun _ _ _ h => h) (Or.inl ⟨by rfl, ?y6qbzb⟩) hHeld ?r6qbzb
      case y6qbzb => ((intro w hSw); (try dsimp only at hSw); go_simp; try with_reducible rfl)
      try simp only [Act.put, List.setIfInBounds_toArray, List.set_cons_zero, List.set_cons_succ]
      refine wpAnyH_take (i := 7) (oi := ⟨some 18, _, _, _, _, _⟩) (v := ?v7qbzb) rfl (by kernel_rfl) (by kernel_rfl) (by kernel_rfl) (fun _ _ _ h => h) (Or.inl ⟨by rfl, ?y7qbzb⟩) hHeld ?r7qbzb
      case y7qbzb => ((intro w hSw); (try dsimp only at hSw); go_simp; try with_reducible rfl)
      try simp only [Act.put, List.setIfInBounds_toArray, List.set_cons_zero, List.set_cons_succ]
      refine wpAnyH_take (i := 8) (oi := ⟨some 19, _, _, _, _, _⟩) (v := ?v8qbzb) rfl (by kernel_rfl) (by kernel_rfl) (by kernel_rfl) (fun _ _ _ h => h) (Or.inl ⟨by rfl, ?y8qbzb⟩) hHeld ?r8qbzb
      case y8qbzb => ((intro w hSw); (try dsimp only at hSw); go_simp; try with_reducible rfl)
      try simp only [Act.put, List.setIfInBounds_toArray, List.set_cons_zero, List.set_cons_succ]
      refine wpAnyH_ready (rs := [9]) (by kernel_rfl) (by simp) (AllReadyH.cons (o := ⟨none, _, _, _, _, _⟩) rfl (fun K hK => ?_) AllReadyH.nil)
      go_simp
      refine hK.out _ _ trivial (fun hHeld => ?_)
      clear hK K
      try simp only [Act.put, List.setIfInBounds_toArray, List.set_cons_zero, List.set_cons_succ]
      refine wpAnyH_done (by kernel_rfl) ?_ _
      have hR4 := heap_set (i := 19) (x := .int .i64 ((y : Int) + (dq : Int))) hR3.out
      have HC4 := Lib.hid (hC3.out.set (g := g) (.inl (by simp)) 19 (.int .i64 ((y : Int) + (dq : Int))))
      have HR4 := Lib.hid hR4
      clear e19 f19 c19 hR3 hC3 hR4
      generalize w3.setCell ⟨g, 19, none⟩ (.int .i64 ((y : Int) + (dq : Int))) = w4 at *
      have c3 := hp_cell (j := 3) HR4.out M3.out
      have c4 := hp_cell (j := 4) HR4.out M4.out
      have c18 := hp_cell (j := 18) HR4.out M18.out
      have c19 := hp_cell (j := 19) HR4.out M19.out
      go_upto_region 2 with fail
      refine wp_region_still_tail 20 (by kernel_rfl) (by kernel_rfl) ?_
      simp only [List.take_succ_cons, List.take_zero, List.drop_succ_cons, List.drop_zero]
      repeat (with_reducible refine wpStill_step (fun K hK => ?_); go_simp; with_reducible refine hK _ ?_; clear hK K)
      with_reducible refine wpStill_nil ?_
      change wpList _ _ _ _ _ w4.drew
      go_wp2_with fail
      refine (bmust_yes 4 _).mono ?_
      rintro e w9 ⟨rfl, rfl⟩
      go_wp2_with fail
      go_end0
      exact ⟨rfl, HC4.out.drew, HR4.out⟩
end Go.Proofs.YthgafdbdmemkhaaDoor
