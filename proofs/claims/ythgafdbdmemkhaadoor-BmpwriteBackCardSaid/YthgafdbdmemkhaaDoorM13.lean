/- bmpread: put, of a colour that is not there. bmpread: put, any place and any colour. bmpread: run. bmpread: step. bmpread: step, its second byte. -/
import Derived.Test.YthgafdbdmemkhaaDoorM12

namespace Go.Proofs.YthgafdbdmemkhaaDoor
set_option maxRecDepth 100000
set_option linter.unusedVariables false
open Go.ChangeShapes Go.WideShapes Go.ChangeAt Go.RowKit

set_option maxRecDepth 100000 in
set_option maxHeartbeats 2000000 in
theorem put_no (g ga W H n4 cap' v x y : Nat) (AC : Option Addr) (cc : Nat) (L : List P4) (cs : Array Value) (w : World) (h : RnS g ga W H n4 cap' v x y AC cc L cs w) (hx : x < W) (hy : y < H) (hW : W ≤ 256) (hH : H ≤ 256) (hv : L.length ≤ v)  :
    Calls Tryd.prog 65 #[.pointer (some ⟨g, 0, none⟩), .int .i64 (v : Nat)] w fun e w' => PanB 4 e ∧ Below w.heap.size w w' := by
  have c3 := hp_cell (j := 3) h.hR h.q3
  have c4 := hp_cell (j := 4) h.hR h.q4
  have c13 := hp_cell (j := 13) h.hR h.q13
  have c14 := hp_cell (j := 14) h.hR h.q14
  have c15 := hp_cell (j := 15) h.hR h.q15
  have c16 := hp_cell (j := 16) h.hR h.q16
  have c18 := hp_cell (j := 18) h.hR h.q18
  have c19 := hp_cell (j := 19) h.hR h.q19
  have t1 : decide ((x : Int) < (W : Int)) = true := by simp; omega
  have t2 : decide ((y : Int) < (H : Int)) = true := by simp; omega
  obtain ⟨Z, hZ⟩ : ∃ Z, Z = H - 1 - y := ⟨_, rfl⟩
  have z1 : IntKind.i64.wrap ((H : Int) - 1) = (H : Int) - 1 := IntWalk.i64_in _ (by omega)
  have z2 : IntKind.i64.wrap ((H : Int) - 1 - (y : Int)) = (Z : Int) := by rw [IntWalk.i64_in _ (by omega)]; omega
  have HV := Lib.hid hv
  clear h hZ
  go_enter Tryd.func65, Tryd.ntmps65
  go_upto_region 0 with fail
  refine wp_region_still_tail 20 (by kernel_rfl) (by kernel_rfl) ?_
  simp only [List.take_succ_cons, List.take_zero, List.drop_succ_cons, List.drop_zero]
  repeat (with_reducible refine wpStill_step (fun K hK => ?_); go_simp; with_reducible refine hK _ ?_; clear hK K)
  with_reducible refine wpStill_nil ?_
  change wpList _ _ _ _ _ w.drew
  go_wp2_with fail
  refine (bmust_yes 4 _).mono ?_
  rintro e w1 ⟨rfl, rfl⟩
  obtain ⟨w1, hw1⟩ : ∃ w1, w1 = w.drew := ⟨_, rfl⟩
  have hbw : Below w.heap.size w w1 := hw1 ▸ (Below.refl _ w).drew
  have HBW := Lib.hid hbw
  have d13 := Lib.hid (cell_bel hbw c13)
  have d4 := cell_bel hbw c4
  have d14 := cell_bel hbw c14
  have d15 := cell_bel hbw c15
  have d16 := cell_bel hbw c16
  have d18 := cell_bel hbw c18
  have d19 := cell_bel hbw c19
  rw [← hw1]
  clear c3 c4 c13 c14 c15 c16 c18 c19 hw1 hbw t1 t2
  go_upto_region 1 with fail
  refine wp_region_held_drew (S := fun w' => w'.cell? ⟨g, 4, none⟩ = some (.int .i64 (H : Nat)) ∧ w'.cell? ⟨g, 14, none⟩ = some (.int .i64 (W : Nat)) ∧ w'.cell? ⟨g, 15, none⟩ = some (.int .i64 (H : Nat)) ∧ w'.cell? ⟨g, 16, none⟩ = some (.slice (some ⟨ga, 0, none⟩) n4 cap') ∧ w'.cell? ⟨g, 18, none⟩ = some (.int .i64 (x : Nat)) ∧ w'.cell? ⟨g, 19, none⟩ = some (.int .i64 (y : Nat))) (by kernel_rfl) ⟨d4, d14, d15, d16, d18, d19⟩ (fun hHeld => ?_)
  refine wpAnyH_take (i := 0) (oi := ⟨some 25, _, _, _, _, _⟩) (v := ?v0) rfl (by kernel_rfl) (by kernel_rfl) (by kernel_rfl) (fun _ _ _ h => h) (Or.inl ⟨by rfl, ?y0⟩) hHeld ?r0
  case y0 => ((intro w hSw); (try dsimp only at hSw); go_split_ands; go_simp; try with_reducible rfl)
  try simp only [Act.put, List.setIfInBounds_toArray, List.set_cons_zero, List.set_cons_succ]
  refine wpAnyH_take (i := 1) (oi := ⟨some 26, _, _, _, _, _⟩) (v := ?v1) rfl (by kernel_rfl) (by kernel_rfl) (by kernel_rfl) (fun _ _ _ h => h) (Or.inl ⟨by rfl, ?y1⟩) hHeld ?r1
  case y1 => ((intro w hSw); (try dsimp only at hSw); go_split_ands; go_simp; try with_reducible rfl)
  try simp only [Act.put, List.setIfInBounds_toArray, List.set_cons_zero, List.set_cons_succ]
  refine wpAnyH_take (i := 2) (oi := ⟨some 27, _, _, _, _, _⟩) (v := ?v2) rfl (by kernel_rfl) (by kernel_rfl) (by kernel_rfl) (fun _ _ _ h => h) (Or.inl ⟨by rfl, ?y2⟩) hHeld ?r2
  case y2 => ((intro w hSw); (try dsimp only at hSw); go_split_ands; go_simp; try with_reducible rfl)
  try simp only [Act.put, List.setIfInBounds_toArray, List.set_cons_zero, List.set_cons_succ]
  refine wpAnyH_take (i := 3) (oi := ⟨some 28, _, _, _, _, _⟩) (v := ?v3) rfl (by kernel_rfl) (by kernel_rfl) (by kernel_rfl) (fun _ _ _ h => h) (Or.inl ⟨by rfl, ?y3⟩) hHeld ?r3
  case y3 => ((intro w hSw); (try dsimp only at hSw); go_split_ands; go_simp; try with_reducible rfl)
  try simp only [Act.put, List.setIfInBounds_toArray, List.set_cons_zero, List.set_cons_succ]
  refine wpAnyH_take (i := 4) (oi := ⟨some 29, _, _, _, _, _⟩) (v := ?v4) rfl (by kernel_rfl) (by kernel_rfl) (by kernel_rfl) (fun _ _ _ h => h) (Or.inl ⟨by rfl, ?y4⟩) hHeld ?r4
  case y4 => ((intro w hSw); (try dsimp only at hSw); go_split_ands; go_simp; try with_reducible rfl)
  try simp only [Act.put, List.setIfInBounds_toArray, List.set_cons_zero, List.set_cons_succ]
  refine wpAnyH_take (i := 5) (oi := ⟨some 30, _, _, _, _, _⟩) (v := ?v5) rfl (by kernel_rfl) (by kernel_rfl) (by kernel_rfl) (fun _ _ _ h => h) (Or.inl ⟨by rfl, ?y5⟩) hHeld ?r5
  case y5 => ((intro w hSw); (try dsimp only at hSw); go_split_ands; go_simp; try with_reducible rfl)
  try simp only [Act.put, List.setIfInBounds_toArray, List.set_cons_zero, List.set_cons_succ]
  refine wpAnyH_take (i := 6) (oi := ⟨some 31, _, _, _, _, _⟩) (v := ?v6) rfl (by kernel_rfl) (by kernel_rfl) (by kernel_rfl) (fun _ _ _ h => h) (Or.inl ⟨by rfl, ?y6⟩) hHeld ?r6
  case y6 => ((intro w hSw); (try dsimp only at hSw); go_split_ands; go_simp; try with_reducible rfl)
  try simp only [Act.put, List.setIfInBounds_toArray, List.set_cons_zero, List.set_cons_succ]
  refine wpAnyH_take (i := 7) (oi := ⟨some 32, _, _, _, _, _⟩) (v := ?v7) rfl (by kernel_rfl) (by kernel_rfl) (by kernel_rfl) (fun _ _ _ h => h) (Or.inl ⟨by rfl, ?y7⟩) hHeld ?r7
  case y7 => ((intro w hSw); (try dsimp only at hSw); go_split_ands; go_simp; try with_reducible rfl)
  try simp only [Act.put, List.setIfInBounds_toArray, List.set_cons_zero, List.set_cons_succ]
  refine wpAnyH_take (i := 8) (oi := ⟨some 33, _, _, _, _, _⟩) (v := ?v8) rfl (by kernel_rfl) (by kernel_rfl) (by kernel_rfl) (fun _ _ _ h => h) (Or.inl ⟨by rfl, ?y8⟩) hHeld ?r8
  case y8 => ((intro w hSw); (try dsimp only at hSw); go_split_ands; go_simp; try with_reducible rfl)
  try simp only [Act.put, List.setIfInBounds_toArray, List.set_cons_zero, List.set_cons_succ]
  refine wpAnyH_take (i := 9) (oi := ⟨some 34, _, _, _, _, _⟩) (v := ?v9) rfl (by kernel_rfl) (by kernel_rfl) (by kernel_rfl) (fun _ _ _ h => h) (Or.inl ⟨by rfl, ?y9⟩) hHeld ?r9
  case y9 => ((intro w hSw); (try dsimp only at hSw); go_split_ands; go_simp; try with_reducible rfl)
  try simp only [Act.put, List.setIfInBounds_toArray, List.set_cons_zero, List.set_cons_succ]
  refine wpAnyH_take (i := 10) (oi := ⟨some 35, _, _, _, _, _⟩) (v := ?v10) rfl (by kernel_rfl) (by kernel_rfl) (by kernel_rfl) (fun _ _ _ h => h) (Or.inl ⟨by rfl, ?y10⟩) hHeld ?r10
  case y10 => ((intro w hSw); (try dsimp only at hSw); go_split_ands; go_simp; try with_reducible rfl)
  try simp only [Act.put, List.setIfInBounds_toArray, List.set_cons_zero, List.set_cons_succ]
  refine wpAnyH_take (i := 11) (oi := ⟨some 36, _, _, _, _, _⟩) (v := ?v11) rfl (by kernel_rfl) (by kernel_rfl) (by kernel_rfl) (fun _ _ _ h => h) (Or.inl ⟨by rfl, ?y11⟩) hHeld ?r11
  case y11 => ((intro w hSw); (try dsimp only at hSw); go_split_ands; go_simp; try with_reducible rfl)
  try simp only [Act.put, List.setIfInBounds_toArray, List.set_cons_zero, List.set_cons_succ]
  refine wpAnyH_take (i := 12) (oi := ⟨some 37, _, _, _, _, _⟩) (v := ?v12) rfl (by kernel_rfl) (by kernel_rfl) (by kernel_rfl) (fun _ _ _ h => h) (Or.inl ⟨by rfl, ?y12⟩) hHeld ?r12
  case y12 => ((intro w hSw); (try dsimp only at hSw); go_split_ands; go_simp; try with_reducible rfl)
  try simp only [Act.put, List.setIfInBounds_toArray, List.set_cons_zero, List.set_cons_succ]
  refine wpAnyH_take (i := 13) (oi := ⟨some 38, _, _, _, _, _⟩) (v := ?v13) rfl (by kernel_rfl) (by kernel_rfl) (by kernel_rfl) (fun _ _ _ h => h) (Or.inl ⟨by rfl, ?y13⟩) hHeld ?r13
  case y13 => ((intro w hSw); (try dsimp only at hSw); go_split_ands; go_simp; try with_reducible rfl)
  try simp only [Act.put, List.setIfInBounds_toArray, List.set_cons_zero, List.set_cons_succ]
  refine wpAnyH_take (i := 14) (oi := ⟨some 39, _, _, _, _, _⟩) (v := ?v14) rfl (by kernel_rfl) (by kernel_rfl) (by kernel_rfl) (fun _ _ _ h => h) (Or.inl ⟨by rfl, ?y14⟩) hHeld ?r14
  case y14 => ((intro w hSw); (try dsimp only at hSw); go_split_ands; go_simp; try with_reducible rfl)
  try simp only [Act.put, List.setIfInBounds_toArray, List.set_cons_zero, List.set_cons_succ]
  refine wpAnyH_take (i := 15) (oi := ⟨some 40, _, _, _, _, _⟩) (v := ?v15) rfl (by kernel_rfl) (by kernel_rfl) (by kernel_rfl) (fun _ _ _ h => h) (Or.inl ⟨by rfl, ?y15⟩) hHeld ?r15
  case y15 => ((intro w hSw); (try dsimp only at hSw); go_split_ands; go_simp; try with_reducible rfl)
  try simp only [Act.put, List.setIfInBounds_toArray, List.set_cons_zero, List.set_cons_succ]
  refine wpAnyH_take (i := 16) (oi := ⟨some 41, _, _, _, _, _⟩) (v := ?v16) rfl (by kernel_rfl) (by kernel_rfl) (by kernel_rfl) (fun _ _ _ h => h) (Or.inl ⟨by rfl, ?y16⟩) hHeld ?r16
  case y16 => ((intro w hSw); (try dsimp only at hSw); go_split_ands; go_simp; try with_reducible rfl)
  try simp only [Act.put, List.setIfInBounds_toArray, List.set_cons_zero, List.set_cons_succ]
  refine wpAnyH_take (i := 17) (oi := ⟨some 42, _, _, _, _, _⟩) (v := ?v17) rfl (by kernel_rfl) (by kernel_rfl) (by kernel_rfl) (fun _ _ _ h => h) (Or.inl ⟨by rfl, ?y17⟩) hHeld ?r17
  case y17 => ((intro w hSw); (try dsimp only at hSw); go_split_ands; go_simp; try with_reducible rfl)
  try simp only [Act.put, List.setIfInBounds_toArray, List.set_cons_zero, List.set_cons_succ]
  refine wpAnyH_take (i := 18) (oi := ⟨some 43, _, _, _, _, _⟩) (v := ?v18) rfl (by kernel_rfl) (by kernel_rfl) (by kernel_rfl) (fun _ _ _ h => h) (Or.inl ⟨by rfl, ?y18⟩) hHeld ?r18
  case y18 => ((intro w hSw); (try dsimp only at hSw); go_split_ands; go_simp; try with_reducible rfl)
  try simp only [Act.put, List.setIfInBounds_toArray, List.set_cons_zero, List.set_cons_succ]
  refine wpAnyH_take (i := 19) (oi := ⟨some 44, _, _, _, _, _⟩) (v := ?v19) rfl (by kernel_rfl) (by kernel_rfl) (by kernel_rfl) (fun _ _ _ h => h) (Or.inl ⟨by rfl, ?y19⟩) hHeld ?r19
  case y19 => ((intro w hSw); (try dsimp only at hSw); go_split_ands; go_simp; try with_reducible rfl)
  try simp only [Act.put, List.setIfInBounds_toArray, List.set_cons_zero, List.set_cons_succ]
  refine wpAnyH_ready (rs := [20]) (by kernel_rfl) (by simp) (AllReadyH.cons (o := ⟨some 45, _, _, _, _, _⟩) rfl (fun K hK => ?_) AllReadyH.nil)
  go_simp
  refine (place_no g v AC L.length cc w1.drew hv (cell_bel (Below.refl _ w1).drew d13.out)).mono ?_
  rintro e w9 ⟨hp, hB⟩
  obtain rfl := hp
  dsimp +zetaDelta only [Exit.inBlock, Exit.then, bodyPost]
  exact ⟨rfl, rfl, HBW.out.trans ((((Below.refl _ w1).drew).trans hB).mono HBW.out.size)⟩
end Go.Proofs.YthgafdbdmemkhaaDoor

namespace Go.Proofs.YthgafdbdmemkhaaDoor
set_option maxRecDepth 100000
set_option linter.unusedVariables false
open Go.ChangeShapes Go.WideShapes Go.ChangeAt Go.RowKit

theorem RnS.v {g ga W H n4 cap' v v' x y : Nat} {AC : Option Addr} {cc : Nat} {L : List P4} {cs : Array Value} {w : World} (h : RnS g ga W H n4 cap' v x y AC cc L cs w) : RnS g ga W H n4 cap' v' x y AC cc L cs w :=
  ⟨h.hR, h.q3, h.q4, h.q13, h.q14, h.q15, h.q16, h.q18, h.q19, h.hS⟩
theorem RnS.right {g ga W H n4 cap' v x y : Nat} {AC : Option Addr} {cc : Nat} {L : List P4} {cs : Array Value} {w w' : World} (h : RnS g ga W H n4 cap' v x y AC cc L cs w) (x' : Nat) (hcs : cs.size = 21) (hc : Chg [g, ga] w w') (hA : ∀ a, AC = some a → a.block ≠ ga ∧ a.block ≠ g)
    (hR : w'.heap[g]? = some (.cells (cs.setIfInBounds 18 (.int .i64 (x' : Nat))) 71 (0, 0))) : RnS g ga W H n4 cap' v x' y AC cc L (cs.setIfInBounds 18 (.int .i64 (x' : Nat))) w' := by
  have key : ∀ (j : Nat) (z : Value), j ≠ 18 → cs[j]? = some z → (cs.setIfInBounds 18 (.int .i64 (x' : Nat)))[j]? = some z := fun j z hj hz => by
    rw [Array.getElem?_setIfInBounds, if_neg (Ne.symm hj), hz]
  refine ⟨hR, key _ _ (by omega) h.q3, key _ _ (by omega) h.q4, key _ _ (by omega) h.q13, key _ _ (by omega) h.q14, key _ _ (by omega) h.q15, key _ _ (by omega) h.q16, ?_, key _ _ (by omega) h.q19, ?_⟩
  · rw [Array.getElem?_setIfInBounds, if_pos rfl, if_pos (by omega)]
  · exact h.hS.chg hc (fun a ha => by have := hA a ha; simp; omega)
/-- A colour put: outside the picture, or none: an error; else it is drawn, and the reader goes on to the right. -/
theorem put_any (g ga W H n4 cap' v x y : Nat) (AC : Option Addr) (cc : Nat) (L : List P4) (cs : Array Value) (w : World) (h : RnS g ga W H n4 cap' v x y AC cc L cs w) (hcs : cs.size = 21) (hW : W ≤ 256) (hH : H ≤ 256) (hL : L.length ≤ 256) (hga : g ≠ ga) (hA : ∀ a, AC = some a → a.block ≠ ga ∧ a.block ≠ g) (hn : n4 ≤ cap') (hmax : cap' ≤ maxLen) (hm : mayB (W : Nat) (H : Nat) n4 = true) (ck : Nat → Nat) (hO : Own 0 w (some ⟨ga, 0, none⟩) n4 ck) :
    Calls Tryd.prog 65 #[.pointer (some ⟨g, 0, none⟩), .int .i64 (v : Nat)] w fun e w' => Chg [g, ga] w w' ∧ ((W ≤ x ∨ H ≤ y ∨ L.length ≤ v) ∧ PanB 4 e ∨
      ¬(W ≤ x ∨ H ≤ y ∨ L.length ≤ v) ∧ e = .returned (.tuple #[]) ∧ RnS g ga W H n4 cap' v (x + 1) y AC cc L (cs.setIfInBounds 18 (.int .i64 (x + 1 : Nat))) w' ∧ Own 0 w' (some ⟨ga, 0, none⟩) n4 (setC ck ((H - 1 - y) * W + x) ((L[v]?).getD (0, 0, 0, 0)))) := by
  by_cases h1 : W ≤ x ∨ H ≤ y
  · refine (put_out g ga W H n4 cap' v x y AC cc L cs w h h1).mono ?_
    rintro e w' ⟨hp, k, rfl⟩
    exact ⟨(Chg.refl _ w).drewN k, .inl ⟨by omega, hp⟩⟩
  by_cases h2 : L.length ≤ v
  · refine (put_no g ga W H n4 cap' v x y AC cc L cs w h (by omega) (by omega) hW hH h2).mono ?_
    rintro e w' ⟨hp, hb⟩
    exact ⟨Chg.of_below hb, .inl ⟨by omega, hp⟩⟩
  refine (put_yes g ga W H n4 cap' v x y AC cc L cs w h hcs (by omega) (by omega) hW hH (by omega) hL hga (fun a ha => (hA a ha).1) hn hmax hm ck hO).mono ?_
  rintro e w' ⟨rfl, hc, hR, hO'⟩
  exact ⟨hc, .inr ⟨by omega, rfl, h.right (x + 1) hcs hc hA hR, hO'⟩⟩
end Go.Proofs.YthgafdbdmemkhaaDoor

namespace Go.Proofs.YthgafdbdmemkhaaDoor
set_option maxRecDepth 100000
set_option linter.unusedVariables false
open Go.ChangeShapes Go.WideShapes Go.ChangeAt Go.RowKit

/-- What putting colours came to. -/
def PutsE (g ga W H n4 cap' y : Nat) (AC : Option Addr) (cc : Nat) (L : List P4) (cs : Array Value) (w : World) (R : Nat × (Nat → Nat) × Nat) (e : Ending) (w' : World) : Prop :=
  Chg [g, ga] w w' ∧ (R.2.2 ≠ 0 ∧ PanB R.2.2 e ∨ R.2.2 = 0 ∧ e = .returned (.tuple #[]) ∧ ∃ cs' : Array Value, cs'.size = 21 ∧ (∀ j, j ≠ 18 → cs'[j]? = cs[j]?) ∧ RnS g ga W H n4 cap' 0 R.1 y AC cc L cs' w' ∧ Own 0 w' (some ⟨ga, 0, none⟩) n4 R.2.1)
theorem puts_no {W H y : Nat} {L : List P4} {G : Nat → Option Nat} {k i x v : Nat} {c : Nat → Nat} (hg : G i = some v) (h : W ≤ x ∨ H ≤ y ∨ L.length ≤ v) : putsB W H L y G (k + 1) i x c = (x, c, 4) := by
  rw [putsB, hg]
  simp only []
  rw [if_pos h]
theorem puts_yes {W H y : Nat} {L : List P4} {G : Nat → Option Nat} {k i x v : Nat} {c : Nat → Nat} (hg : G i = some v) (h : ¬(W ≤ x ∨ H ≤ y ∨ L.length ≤ v)) : putsB W H L y G (k + 1) i x c = putsB W H L y G k (i + 1) (x + 1) (setC c ((H - 1 - y) * W + x) ((L[v]?).getD (0, 0, 0, 0))) := by
  rw [putsB, hg]
  simp only []
  rw [if_neg h]
theorem nib_run {v i : Nat} : nib 1 v i = v := by simp [nib]
theorem nib_even {v i : Nat} (h : i % 2 = 0) : nib 2 v i = v / 16 := by simp [nib, h]
theorem nib_odd {v i : Nat} (h : ¬i % 2 = 0) : nib 2 v i = v % 16 := by simp [nib, h]
theorem and15 (v : Nat) (hv : v < 256) : bits .and .i64 (v : Int) 15 = ((v % 16 : Nat) : Int) := by
  have h := i64_and_nat v 15 (by omega) (by omega)
  rw [show ((15 : Nat) : Int) = 15 from rfl] at h
  rw [h, show (15 : Nat) = 2 ^ 4 - 1 from rfl, Nat.and_two_pow_sub_one_eq_mod]
set_option maxRecDepth 100000 in
set_option maxHeartbeats 4000000 in
theorem run_any (kind : Nat) (hkind : kind = 1 ∨ kind = 2) (n v : Nat) (hnn : n < 256) (hv : v < 256) (g ga W H n4 cap' x y : Nat) (AC : Option Addr) (cc : Nat) (L : List P4) (cs : Array Value) (w : World) (h : RnS g ga W H n4 cap' 0 x y AC cc L cs w) (q7 : cs[7]? = some (.int .i64 (kind : Nat))) (hcs : cs.size = 21) (hW : W ≤ 256) (hH : H ≤ 256) (hL : L.length ≤ 256) (hga : g ≠ ga) (hA : ∀ a, AC = some a → a.block ≠ ga ∧ a.block ≠ g) (hn : n4 ≤ cap') (hmax : cap' ≤ maxLen) (hm : mayB (W : Nat) (H : Nat) n4 = true) (ck : Nat → Nat) (hO : Own 0 w (some ⟨ga, 0, none⟩) n4 ck) :
    Calls Tryd.prog 57 #[.pointer (some ⟨g, 0, none⟩), .int .i64 (n : Nat), .int .i64 (v : Nat)] w (PutsE g ga W H n4 cap' y AC cc L cs w (putsB W H L y (fun j => some (nib kind v j)) n 0 x ck)) := by
  obtain ⟨R, hR⟩ : ∃ R, R = putsB W H L y (fun j => some (nib kind v j)) n 0 x ck := ⟨_, rfl⟩
  have HR := Lib.hid hR
  rw [← hR]
  have HS := Lib.hid h
  have HO := Lib.hid hO
  have HA := Lib.hid hA
  have HM := Lib.hid hm
  have H7 := Lib.hid q7
  clear h hO hA hm q7 hR
  go_enter Tryd.func57, Tryd.ntmps57
  go_wp2_with fail
  go_loopw [8] (fun q wr => ∃ (i x1 : Nat) (c : Nat → Nat) (cs1 : Array Value), i ≤ n ∧ q = .int .i64 (i : Nat) ∧ Chg [g, ga] w wr ∧ cs1.size = 21 ∧ (∀ j, j ≠ 18 → cs1[j]? = cs[j]?) ∧ RnS g ga W H n4 cap' 0 x1 y AC cc L cs1 wr ∧ Own 0 wr (some ⟨ga, 0, none⟩) n4 c ∧ R = putsB W H L y (fun j => some (nib kind v j)) (n - i) i x1 c) (fun q _ => n - (intOf q).toNat)
  case atStart => exact ⟨0, x, ck, cs, by omega, rfl, Chg.refl _ _, hcs, fun _ _ => rfl, HS.out, HO.out, HR.out⟩
  case round =>
    obtain ⟨i, x1, c, cs1, hi, rfl, hC, hs1, hj, hS, hO, hE⟩ := hrel
    have c7 := hp_cell (j := 7) hS.hR ((hj 7 (by omega)).trans H7.out)
    by_cases hlt : i < n
    · have hnx : n - i = (n - (i + 1)) + 1 := by omega
      rw [hnx] at hE
      have HE := Lib.hid hE
      have HC := Lib.hid hC
      have HJ := Lib.hid hj
      have HS1 := Lib.hid hS
      have HO1 := Lib.hid hO
      clear hE hC hj hS hO HS HO HR hnx
      rcases hkind with rfl | rfl
      · go_wp2_with fail
        refine (put_any g ga W H n4 cap' v x1 y AC cc L cs1 wr HS1.out.v hs1 hW hH hL hga HA.out hn hmax HM.out c HO1.out).mono ?_
        rintro e w2 ⟨hC2, ⟨hb, hp⟩ | ⟨hb, rfl, hS2, hO2⟩⟩
        · obtain rfl := hp
          have hE := HE.out
          rw [puts_no (G := fun j => some (nib 1 v j)) (i := i) (v := v) (congrArg some nib_run) hb] at hE
          dsimp +zetaDelta only [Exit.inBlock, Exit.then, bodyPost]
          exact ⟨rfl, HC.out.trans hC2, .inl ⟨by rw [hE]; simp, by rw [hE]; rfl⟩⟩
        · have hE := HE.out
          rw [puts_yes (G := fun j => some (nib 1 v j)) (i := i) (v := v) (congrArg some nib_run) hb] at hE
          have HE2 := Lib.hid hE
          have HS2 := Lib.hid (hS2.v (v' := 0))
          have HO2 := Lib.hid hO2
          have HC2 := Lib.hid (HC.out.trans hC2)
          clear hE HE hS2 hO2 hC2 hb
          go_wp2_with fail
          go_roundw
          case rel => exact ⟨i + 1, x1 + 1, _, _, hlt, by go_num, HC2.out, by simp [hs1], fun j hj => (by rw [Array.getElem?_setIfInBounds, if_neg (Ne.symm hj)]; exact HJ.out j hj), HS2.out, HO2.out, HE2.out⟩
          case measure => simp [intOf]; omega
      · by_cases he : i % 2 = 0
        · have t3 : (i : Int) % 2 = 0 := by omega
          go_wp2_with fail
          rw [show (v : Int) / 16 = ((v / 16 : Nat) : Int) by omega]
          refine (put_any g ga W H n4 cap' (v / 16) x1 y AC cc L cs1 wr HS1.out.v hs1 hW hH hL hga HA.out hn hmax HM.out c HO1.out).mono ?_
          rintro e w2 ⟨hC2, ⟨hb, hp⟩ | ⟨hb, rfl, hS2, hO2⟩⟩
          · obtain rfl := hp
            have hE := HE.out
            rw [puts_no (G := fun j => some (nib 2 v j)) (i := i) (v := (v / 16)) (congrArg some (nib_even he)) hb] at hE
            dsimp +zetaDelta only [Exit.inBlock, Exit.then, bodyPost]
            exact ⟨rfl, HC.out.trans hC2, .inl ⟨by rw [hE]; simp, by rw [hE]; rfl⟩⟩
          · have hE := HE.out
            rw [puts_yes (G := fun j => some (nib 2 v j)) (i := i) (v := (v / 16)) (congrArg some (nib_even he)) hb] at hE
            have HE2 := Lib.hid hE
            have HS2 := Lib.hid (hS2.v (v' := 0))
            have HO2 := Lib.hid hO2
            have HC2 := Lib.hid (HC.out.trans hC2)
            clear hE HE hS2 hO2 hC2 hb
            go_wp2_with fail
            go_roundw
            case rel => exact ⟨i + 1, x1 + 1, _, _, hlt, by go_num, HC2.out, by simp [hs1], fun j hj => (by rw [Array.getElem?_setIfInBounds, if_neg (Ne.symm hj)]; exact HJ.out j hj), HS2.out, HO2.out, HE2.out⟩
            case measure => simp [intOf]; omega
        · have t3 : (i : Int) % 2 = 1 := by omega
          go_wp2_with fail
          rw [and15 v hv]
          refine (put_any g ga W H n4 cap' (v % 16) x1 y AC cc L cs1 wr HS1.out.v hs1 hW hH hL hga HA.out hn hmax HM.out c HO1.out).mono ?_
          rintro e w2 ⟨hC2, ⟨hb, hp⟩ | ⟨hb, rfl, hS2, hO2⟩⟩
          · obtain rfl := hp
            have hE := HE.out
            rw [puts_no (G := fun j => some (nib 2 v j)) (i := i) (v := (v % 16)) (congrArg some (nib_odd he)) hb] at hE
            dsimp +zetaDelta only [Exit.inBlock, Exit.then, bodyPost]
            exact ⟨rfl, HC.out.trans hC2, .inl ⟨by rw [hE]; simp, by rw [hE]; rfl⟩⟩
          · have hE := HE.out
            rw [puts_yes (G := fun j => some (nib 2 v j)) (i := i) (v := (v % 16)) (congrArg some (nib_odd he)) hb] at hE
            have HE2 := Lib.hid hE
            have HS2 := Lib.hid (hS2.v (v' := 0))
            have HO2 := Lib.hid hO2
            have HC2 := Lib.hid (HC.out.trans hC2)
            clear hE HE hS2 hO2 hC2 hb
            go_wp2_with fail
            go_roundw
            case rel => exact ⟨i + 1, x1 + 1, _, _, hlt, by go_num, HC2.out, by simp [hs1], fun j hj => (by rw [Array.getElem?_setIfInBounds, if_neg (Ne.symm hj)]; exact HJ.out j hj), HS2.out, HO2.out, HE2.out⟩
            case measure => simp [intOf]; omega
    · obtain rfl : i = n := by omega
      rw [Nat.sub_self, putsB] at hE
      have HE := Lib.hid hE
      have HC := Lib.hid hC
      have HS1 := Lib.hid hS
      have HO1 := Lib.hid hO
      have HJ := Lib.hid hj
      clear hE hC hS hO hj
      go_wp2_with fail
      go_end0
      rw [HE.out]
      exact ⟨HC.out, .inr ⟨rfl, rfl, cs1, hs1, HJ.out, HS1.out, HO1.out⟩⟩
end Go.Proofs.YthgafdbdmemkhaaDoor

namespace Go.Proofs.YthgafdbdmemkhaaDoor
set_option maxRecDepth 100000
set_option linter.unusedVariables false
open Go.ChangeShapes Go.WideShapes Go.ChangeAt Go.RowKit

set_option maxRecDepth 100000 in
set_option maxHeartbeats 1000000 in
theorem step_no1 (g p m cap x y : Nat) (A : Option Addr) (cs : Array Value) (hp : m ≤ p) (w : World) (hR : w.heap[g]? = some (.cells cs 71 (0, 0))) (q0 : cs[0]? = some (.slice A m cap)) (q17 : cs[17]? = some (.int .i64 (p : Nat))) (q18 : cs[18]? = some (.int .i64 (x : Nat))) :
    Calls Tryd.prog 58 #[.pointer (some ⟨g, 0, none⟩)] w fun e w' => PanB 2 e ∧ Chg [g] w w' := by
  have c18 := hp_cell (j := 18) hR q18
  have HN := Lib.hid (fun k => next_no g p m cap A cs hp (w.drewN k) hR q0 q17)
  clear hR
  go_enter Tryd.func58, Tryd.ntmps58
  go_upto_region 0 with fail
  refine wp_region_held_drew (S := fun _ => True) (by kernel_rfl) trivial (fun hHeld => ?_)
  refine wpAnyH_take (i := 0) (oi := ⟨some 2, _, _, _, _, _⟩) (v := ?v0) rfl (by kernel_rfl) (by kernel_rfl) (by kernel_rfl) (fun _ _ _ h => h) (Or.inl ⟨by rfl, ?y0⟩) hHeld ?r0
  case y0 => ((intro w hSw); (try dsimp only at hSw); go_simp; try with_reducible rfl)
  try simp only [Act.put, List.setIfInBounds_toArray, List.set_cons_zero, List.set_cons_succ]
  refine wpAnyH_take (i := 1) (oi := ⟨some 3, _, _, _, _, _⟩) (v := ?v1) rfl (by kernel_rfl) (by kernel_rfl) (by kernel_rfl) (fun _ _ _ h => h) (Or.inl ⟨by rfl, ?y1⟩) hHeld ?r1
  case y1 => ((intro w hSw); (try dsimp only at hSw); go_simp; try with_reducible rfl)
  try simp only [Act.put, List.setIfInBounds_toArray, List.set_cons_zero, List.set_cons_succ]
  refine wpAnyH_take (i := 2) (oi := ⟨some 4, _, _, _, _, _⟩) (v := ?v2) rfl (by kernel_rfl) (by kernel_rfl) (by kernel_rfl) (fun _ _ _ h => h) (Or.inl ⟨by rfl, ?y2⟩) hHeld ?r2
  case y2 => ((intro w hSw); (try dsimp only at hSw); go_simp; try with_reducible rfl)
  try simp only [Act.put, List.setIfInBounds_toArray, List.set_cons_zero, List.set_cons_succ]
  refine wpAnyH_take (i := 4) (oi := ⟨some 6, _, _, _, _, _⟩) (v := ?v4) rfl (by kernel_rfl) (by kernel_rfl) (by kernel_rfl) (fun _ _ _ h => h) (Or.inl ⟨by rfl, ?y4⟩) hHeld ?r4
  case y4 => ((intro w hSw); (try dsimp only at hSw); go_simp; try with_reducible rfl)
  try simp only [Act.put, List.setIfInBounds_toArray, List.set_cons_zero, List.set_cons_succ]
  refine wpAnyH_ready (rs := [3, 5]) (by kernel_rfl) (by simp) (AllReadyH.cons (o := ⟨some 5, _, _, _, _, _⟩) rfl (fun K hK => ?_) (AllReadyH.cons (o := ⟨some 7, _, _, _, _, _⟩) rfl (fun K hK => ?_) AllReadyH.nil))
  · go_simp
    refine hK.out _ _ trivial (fun hHeld => ?_)
    clear hK K
    try simp only [Act.put, List.setIfInBounds_toArray, List.set_cons_zero, List.set_cons_succ]
    refine wpAnyH_ready (rs := [5]) (by kernel_rfl) (by simp) (AllReadyH.cons (o := ⟨some 7, _, _, _, _, _⟩) rfl (fun K hK => ?_) AllReadyH.nil)
    go_simp
    refine (HN.out 1).mono ?_
    rintro e w1 ⟨hp, k, rfl⟩
    obtain rfl := hp
    dsimp +zetaDelta only [Exit.inBlock, Exit.then, bodyPost]
    exact ⟨rfl, rfl, ((Chg.refl [g] w).drewN 1).drewN k⟩
  · go_simp
    refine (HN.out 1).mono ?_
    rintro e w1 ⟨hp, k, rfl⟩
    obtain rfl := hp
    dsimp +zetaDelta only [Exit.inBlock, Exit.then, bodyPost]
    exact ⟨rfl, rfl, ((Chg.refl [g] w).drewN 1).drewN k⟩
end Go.Proofs.YthgafdbdmemkhaaDoor

namespace Go.Proofs.YthgafdbdmemkhaaDoor
set_option maxRecDepth 100000
set_option linter.unusedVariables false
open Go.ChangeShapes Go.WideShapes Go.ChangeAt Go.RowKit

set_option maxRecDepth 100000 in
set_option maxHeartbeats 4000000 in
theorem step_no2 (g p m cap x y : Nat) (A : Option Addr) (cs : Array Value) (d : Nat → Nat) (hd : ∀ i, d i < 256) (hx : x ≤ 512) (hp : p < m) (hp2 : m ≤ p + 1) (hm : m ≤ 262144) (w : World) (hR : w.heap[g]? = some (.cells cs 71 (0, 0))) (q0 : cs[0]? = some (.slice A m cap)) (q17 : cs[17]? = some (.int .i64 (p : Nat))) (q18 : cs[18]? = some (.int .i64 (x : Nat))) (q19 : cs[19]? = some (.int .i64 (y : Nat))) (hB : Byt w A m d) (hA : ∀ a, A = some a → a.block ≠ g) :
    Calls Tryd.prog 58 #[.pointer (some ⟨g, 0, none⟩)] w fun e w' => PanB 2 e ∧ Chg [g] w w' := by
  have c18 := hp_cell (j := 18) hR q18
  have hcs1 : (cs.setIfInBounds 17 (.int .i64 ((p + 1 : Nat) : Int)))[18]? = some (.int .i64 (x : Nat)) := (setB_get (by omega)).trans q18
  have HN := Lib.hid (next_yes g p m cap A cs d hd hp hm w.drew hR q0 q17 (hB.below (Below.refl _ w).drew) hA)
  have HR := Lib.hid hR
  have H18 := Lib.hid hcs1
  have H0 := Lib.hid (show ((cs.setIfInBounds 17 (.int .i64 ((p + 1 : Nat) : Int))).setIfInBounds 18 (.int .i64 ((x : Int) + (d p : Int))))[0]? = _ from (setB_get (by omega)).trans ((setB_get (by omega)).trans q0))
  have H17 := Lib.hid (show ((cs.setIfInBounds 17 (.int .i64 ((p + 1 : Nat) : Int))).setIfInBounds 18 (.int .i64 ((x : Int) + (d p : Int))))[17]? = _ from (setB_get (by omega)).trans (setB_same q17))
  have H19 := Lib.hid (show ((cs.setIfInBounds 17 (.int .i64 ((p + 1 : Nat) : Int))).setIfInBounds 18 (.int .i64 ((x : Int) + (d p : Int))))[19]? = _ from (setB_get (by omega)).trans ((setB_get (by omega)).trans q19))
  have hdp := hd p
  obtain ⟨dp, hdpe⟩ : ∃ dp, dp = d p := ⟨_, rfl⟩
  rw [← hdpe] at HN hdp H0 H17 H19
  have xw : IntKind.i64.wrap ((x : Int) + (dp : Int)) = ((x + dp : Nat) : Int) := by rw [IntWalk.i64_in _ (by omega)]; omega
  clear hR hcs1 hdpe
  go_enter Tryd.func58, Tryd.ntmps58
  go_upto_region 0 with fail
  refine wp_region_held_drew (S := fun _ => True) (by kernel_rfl) trivial (fun hHeld => ?_)
  refine wpAnyH_take (i := 0) (oi := ⟨some 2, _, _, _, _, _⟩) (v := ?v0) rfl (by kernel_rfl) (by kernel_rfl) (by kernel_rfl) (fun _ _ _ h => h) (Or.inl ⟨by rfl, ?y0⟩) hHeld ?r0
  case y0 => ((intro w hSw); (try dsimp only at hSw); go_simp; try with_reducible rfl)
  try simp only [Act.put, List.setIfInBounds_toArray, List.set_cons_zero, List.set_cons_succ]
  refine wpAnyH_take (i := 1) (oi := ⟨some 3, _, _, _, _, _⟩) (v := ?v1) rfl (by kernel_rfl) (by kernel_rfl) (by kernel_rfl) (fun _ _ _ h => h) (Or.inl ⟨by rfl, ?y1⟩) hHeld ?r1
  case y1 => ((intro w hSw); (try dsimp only at hSw); go_simp; try with_reducible rfl)
  try simp only [Act.put, List.setIfInBounds_toArray, List.set_cons_zero, List.set_cons_succ]
  refine wpAnyH_take (i := 2) (oi := ⟨some 4, _, _, _, _, _⟩) (v := ?v2) rfl (by kernel_rfl) (by kernel_rfl) (by kernel_rfl) (fun _ _ _ h => h) (Or.inl ⟨by rfl, ?y2⟩) hHeld ?r2
  case y2 => ((intro w hSw); (try dsimp only at hSw); go_simp; try with_reducible rfl)
  try simp only [Act.put, List.setIfInBounds_toArray, List.set_cons_zero, List.set_cons_succ]
  refine wpAnyH_take (i := 4) (oi := ⟨some 6, _, _, _, _, _⟩) (v := ?v4) rfl (by kernel_rfl) (by kernel_rfl) (by kernel_rfl) (fun _ _ _ h => h) (Or.inl ⟨by rfl, ?y4⟩) hHeld ?r4
  case y4 => ((intro w hSw); (try dsimp only at hSw); go_simp; try with_reducible rfl)
  try simp only [Act.put, List.setIfInBounds_toArray, List.set_cons_zero, List.set_cons_succ]
  refine wpAnyH_ready (rs := [3, 5]) (by kernel_rfl) (by simp) (AllReadyH.cons (o := ⟨some 5, _, _, _, _, _⟩) rfl (fun K hK => ?_) (AllReadyH.cons (o := ⟨some 7, _, _, _, _, _⟩) rfl (fun K hK => ?_) AllReadyH.nil))
  · go_simp
    refine hK.out _ _ trivial (fun hHeld => ?_)
    clear hK K
    try simp only [Act.put, List.setIfInBounds_toArray, List.set_cons_zero, List.set_cons_succ]
    refine wpAnyH_ready (rs := [5]) (by kernel_rfl) (by simp) (AllReadyH.cons (o := ⟨some 7, _, _, _, _, _⟩) rfl (fun K hK => ?_) AllReadyH.nil)
    go_simp
    refine HN.out.mono ?_
    rintro e w1 ⟨rfl, k, rfl⟩
    have hR1 := Lib.hid (show ((w.drew.setCell ⟨g, 17, none⟩ (.int .i64 ((p + 1 : Nat) : Int))).drewN k).heap[g]? = _ from heap_set HR.out)
    have hC1 := Lib.hid (show Chg [g] w ((w.drew.setCell ⟨g, 17, none⟩ (.int .i64 ((p + 1 : Nat) : Int))).drewN k) from ((((Chg.refl [g] w).drew).set (.inl (by simp)) 17 _).drewN k))
    generalize (w.drew.setCell ⟨g, 17, none⟩ (.int .i64 ((p + 1 : Nat) : Int))).drewN k = w1 at *
    have e18 := hp_cell (j := 18) hR1.out H18.out
    have f18 := hp_froz hR1.out 18
    try go_wp2_with fail
    refine hK.out _ _ trivial (fun hHeld => ?_)
    clear hK K
    try simp only [Act.put, List.setIfInBounds_toArray, List.set_cons_zero, List.set_cons_succ]
    refine wpAnyH_take (i := 6) (oi := ⟨some 8, _, _, _, _, _⟩) (v := ?v6) rfl (by kernel_rfl) (by kernel_rfl) (by kernel_rfl) (fun _ _ _ h => h) (Or.inl ⟨by rfl, ?y6⟩) hHeld ?r6
    case y6 => ((intro w hSw); (try dsimp only at hSw); go_simp; try with_reducible rfl)
    try simp only [Act.put, List.setIfInBounds_toArray, List.set_cons_zero, List.set_cons_succ]
    refine wpAnyH_take (i := 7) (oi := ⟨some 9, _, _, _, _, _⟩) (v := ?v7) rfl (by kernel_rfl) (by kernel_rfl) (by kernel_rfl) (fun _ _ _ h => h) (Or.inl ⟨by rfl, ?y7⟩) hHeld ?r7
    case y7 => ((intro w hSw); (try dsimp only at hSw); go_simp; try with_reducible rfl)
    try simp only [Act.put, List.setIfInBounds_toArray, List.set_cons_zero, List.set_cons_succ]
    refine wpAnyH_take (i := 8) (oi := ⟨some 10, _, _, _, _, _⟩) (v := ?v8) rfl (by kernel_rfl) (by kernel_rfl) (by kernel_rfl) (fun _ _ _ h => h) (Or.inl ⟨by rfl, ?y8⟩) hHeld ?r8
    case y8 => ((intro w hSw); (try dsimp only at hSw); go_simp; try with_reducible rfl)
    try simp only [Act.put, List.setIfInBounds_toArray, List.set_cons_zero, List.set_cons_succ]
    refine wpAnyH_ready (rs := [9]) (by kernel_rfl) (by simp) (AllReadyH.cons (o := ⟨none, _, _, _, _, _⟩) rfl (fun K hK => ?_) AllReadyH.nil)
    go_simp
    refine hK.out _ _ trivial (fun hHeld => ?_)
    clear hK K
    try simp only [Act.put, List.setIfInBounds_toArray, List.set_cons_zero, List.set_cons_succ]
    refine wpAnyH_done (by kernel_rfl) ?_ _
    have hR2 := heap_set (i := 18) (x := .int .i64 ((x : Int) + (dp : Int))) hR1.out
    have hC2 := Lib.hid (hC1.out.set (g := g) (.inl (by simp)) 18 (.int .i64 ((x : Int) + (dp : Int))))
    have HR2 := Lib.hid hR2
    clear e18 f18 hR1 hC1 hR2
    generalize w1.setCell ⟨g, 18, none⟩ (.int .i64 ((x : Int) + (dp : Int))) = w2 at *
    have c19 := hp_cell (j := 19) HR2.out H19.out
    have HN2 := Lib.hid (next_no g (p + 1) m cap A _ hp2 w2.drew HR2.out H0.out H17.out)
    go_upto_region 1 with fail
    refine wp_region_held_drew (S := fun _ => True) (by kernel_rfl) trivial (fun hHeld => ?_)
    refine wpAnyH_take (i := 0) (oi := ⟨some 11, _, _, _, _, _⟩) (v := ?v0b) rfl (by kernel_rfl) (by kernel_rfl) (by kernel_rfl) (fun _ _ _ h => h) (Or.inl ⟨by rfl, ?y0b⟩) hHeld ?r0b
    case y0b => ((intro w hSw); (try dsimp only at hSw); go_simp; try with_reducible rfl)
    try simp only [Act.put, List.setIfInBounds_toArray, List.set_cons_zero, List.set_cons_succ]
    refine wpAnyH_take (i := 1) (oi := ⟨some 12, _, _, _, _, _⟩) (v := ?v1b) rfl (by kernel_rfl) (by kernel_rfl) (by kernel_rfl) (fun _ _ _ h => h) (Or.inl ⟨by rfl, ?y1b⟩) hHeld ?r1b
    case y1b => ((intro w hSw); (try dsimp only at hSw); go_simp; try with_reducible rfl)
    try simp only [Act.put, List.setIfInBounds_toArray, List.set_cons_zero, List.set_cons_succ]
    refine wpAnyH_take (i := 2) (oi := ⟨some 13, _, _, _, _, _⟩) (v := ?v2b) rfl (by kernel_rfl) (by kernel_rfl) (by kernel_rfl) (fun _ _ _ h => h) (Or.inl ⟨by rfl, ?y2b⟩) hHeld ?r2b
    case y2b => ((intro w hSw); (try dsimp only at hSw); go_simp; try with_reducible rfl)
    try simp only [Act.put, List.setIfInBounds_toArray, List.set_cons_zero, List.set_cons_succ]
    refine wpAnyH_take (i := 4) (oi := ⟨some 15, _, _, _, _, _⟩) (v := ?v4b) rfl (by kernel_rfl) (by kernel_rfl) (by kernel_rfl) (fun _ _ _ h => h) (Or.inl ⟨by rfl, ?y4b⟩) hHeld ?r4b
    case y4b => ((intro w hSw); (try dsimp only at hSw); go_simp; try with_reducible rfl)
    try simp only [Act.put, List.setIfInBounds_toArray, List.set_cons_zero, List.set_cons_succ]
    refine wpAnyH_ready (rs := [3, 5]) (by kernel_rfl) (by simp) (AllReadyH.cons (o := ⟨some 14, _, _, _, _, _⟩) rfl (fun K hK => ?_) (AllReadyH.cons (o := ⟨some 16, _, _, _, _, _⟩) rfl (fun K hK => ?_) AllReadyH.nil))
    · go_simp
      refine hK.out _ _ trivial (fun hHeld => ?_)
      clear hK K
      try simp only [Act.put, List.setIfInBounds_toArray, List.set_cons_zero, List.set_cons_succ]
      refine wpAnyH_ready (rs := [5]) (by kernel_rfl) (by simp) (AllReadyH.cons (o := ⟨some 16, _, _, _, _, _⟩) rfl (fun K hK => ?_) AllReadyH.nil)
      go_simp
      refine HN2.out.mono ?_
      rintro e w3 ⟨hq, k2, rfl⟩
      obtain rfl := hq
      dsimp +zetaDelta only [Exit.inBlock, Exit.then, bodyPost]
      exact ⟨rfl, rfl, hC2.out.drew.drewN k2⟩
    · go_simp
      refine HN2.out.mono ?_
      rintro e w3 ⟨hq, k2, rfl⟩
      obtain rfl := hq
      dsimp +zetaDelta only [Exit.inBlock, Exit.then, bodyPost]
      exact ⟨rfl, rfl, hC2.out.drew.drewN k2⟩
  · go_simp
    refine HN.out.mono ?_
    rintro e w1 ⟨rfl, k, rfl⟩
    have hR1 := Lib.hid (show ((w.drew.setCell ⟨g, 17, none⟩ (.int .i64 ((p + 1 : Nat) : Int))).drewN k).heap[g]? = _ from heap_set HR.out)
    have hC1 := Lib.hid (show Chg [g] w ((w.drew.setCell ⟨g, 17, none⟩ (.int .i64 ((p + 1 : Nat) : Int))).drewN k) from ((((Chg.refl [g] w).drew).set (.inl (by simp)) 17 _).drewN k))
    generalize (w.drew.setCell ⟨g, 17, none⟩ (.int .i64 ((p + 1 : Nat) : Int))).drewN k = w1 at *
    have e18 := hp_cell (j := 18) hR1.out H18.out
    have f18 := hp_froz hR1.out 18
    try go_wp2_with fail
    refine hK.out _ _ trivial (fun hHeld => ?_)
    clear hK K
    try simp only [Act.put, List.setIfInBounds_toArray, List.set_cons_zero, List.set_cons_succ]
    refine wpAnyH_ready (rs := [3]) (by kernel_rfl) (by simp) (AllReadyH.cons (o := ⟨some 5, _, _, _, _, _⟩) rfl (fun K hK => ?_) AllReadyH.nil)
    go_simp
    refine hK.out _ _ trivial (fun hHeld => ?_)
    clear hK K
    try simp only [Act.put, List.setIfInBounds_toArray, List.set_cons_zero, List.set_cons_succ]
    refine wpAnyH_take (i := 6) (oi := ⟨some 8, _, _, _, _, _⟩) (v := ?v6c) rfl (by kernel_rfl) (by kernel_rfl) (by kernel_rfl) (fun _ _ _ h => h) (Or.inl ⟨by rfl, ?y6c⟩) hHeld ?r6c
    case y6c => ((intro w hSw); (try dsimp only at hSw); go_simp; try with_reducible rfl)
    try simp only [Act.put, List.setIfInBounds_toArray, List.set_cons_zero, List.set_cons_succ]
    refine wpAnyH_take (i := 7) (oi := ⟨some 9, _, _, _, _, _⟩) (v := ?v7c) rfl (by kernel_rfl) (by kernel_rfl) (by kernel_rfl) (fun _ _ _ h => h) (Or.inl ⟨by rfl, ?y7c⟩) hHeld ?r7c
    case y7c => ((intro w hSw); (try dsimp only at hSw); go_simp; try with_reducible rfl)
    try simp only [Act.put, List.setIfInBounds_toArray, List.set_cons_zero, List.set_cons_succ]
    refine wpAnyH_take (i := 8) (oi := ⟨some 10, _, _, _, _, _⟩) (v := ?v8c) rfl (by kernel_rfl) (by kernel_rfl) (by kernel_rfl) (fun _ _ _ h => h) (Or.inl ⟨by rfl, ?y8c⟩) hHeld ?r8c
    case y8c => ((intro w hSw); (try dsimp only at hSw); go_simp; try with_reducible rfl)
    try simp only [Act.put, List.setIfInBounds_toArray, List.set_cons_zero, List.set_cons_succ]
    refine wpAnyH_ready (rs := [9]) (by kernel_rfl) (by simp) (AllReadyH.cons (o := ⟨none, _, _, _, _, _⟩) rfl (fun K hK => ?_) AllReadyH.nil)
    go_simp
    refine hK.out _ _ trivial (fun hHeld => ?_)
    clear hK K
    try simp only [Act.put, List.setIfInBounds_toArray, List.set_cons_zero, List.set_cons_succ]
    refine wpAnyH_done (by kernel_rfl) ?_ _
    have hR2 := heap_set (i := 18) (x := .int .i64 ((x : Int) + (dp : Int))) hR1.out
    have hC2 := Lib.hid (hC1.out.set (g := g) (.inl (by simp)) 18 (.int .i64 ((x : Int) + (dp : Int))))
    have HR2 := Lib.hid hR2
    clear e18 f18 hR1 hC1 hR2
    generalize w1.setCell ⟨g, 18, none⟩ (.int .i64 ((x : Int) + (dp : Int))) = w2 at *
    have c19 := hp_cell (j := 19) HR2.out H19.out
    have HN2 := Lib.hid (next_no g (p + 1) m cap A _ hp2 w2.drew HR2.out H0.out H17.out)
    go_upto_region 1 with fail
    refine wp_region_held_drew (S := fun _ => True) (by kernel_rfl) trivial (fun hHeld => ?_)
    refine wpAnyH_take (i := 0) (oi := ⟨some 11, _, _, _, _, _⟩) (v := ?v0bc) rfl (by kernel_rfl) (by kernel_rfl) (by kernel_rfl) (fun _ _ _ h => h) (Or.inl ⟨by rfl, ?y0bc⟩) hHeld ?r0bc
    case y0bc => ((intro w hSw); (try dsimp only at hSw); go_simp; try with_reducible rfl)
    try simp only [Act.put, List.setIfInBounds_toArray, List.set_cons_zero, List.set_cons_succ]
    refine wpAnyH_take (i := 1) (oi := ⟨some 12, _, _, _, _, _⟩) (v := ?v1bc) rfl (by kernel_rfl) (by kernel_rfl) (by kernel_rfl) (fun _ _ _ h => h) (Or.inl ⟨by rfl, ?y1bc⟩) hHeld ?r1bc
    case y1bc => ((intro w hSw); (try dsimp only at hSw); go_simp; try with_reducible rfl)
    try simp only [Act.put, List.setIfInBounds_toArray, List.set_cons_zero, List.set_cons_succ]
    refine wpAnyH_take (i := 2) (oi := ⟨some 13, _, _, _, _, _⟩) (v := ?v2bc) rfl (by kernel_rfl) (by kernel_rfl) (by kernel_rfl) (fun _ _ _ h => h) (Or.inl ⟨by rfl, ?y2bc⟩) hHeld ?r2bc
    case y2bc => ((intro w hSw); (try dsimp only at hSw); go_simp; try with_reducible rfl)
    try simp only [Act.put, List.setIfInBounds_toArray, List.set_cons_zero, List.set_cons_succ]
    refine wpAnyH_take (i := 4) (oi := ⟨some 15, _, _, _, _, _⟩) (v := ?v4bc) rfl (by kernel_rfl) (by kernel_rfl) (by kernel_rfl) (fun _ _ _ h => h) (Or.inl ⟨by rfl, ?y4bc⟩) hHeld ?r4bc
    case y4bc => ((intro w hSw); (try dsimp only at hSw); go_simp; try with_reducible rfl)
    try simp only [Act.put, List.setIfInBounds_toArray, List.set_cons_zero, List.set_cons_succ]
    refine wpAnyH_ready (rs := [3, 5]) (by kernel_rfl) (by simp) (AllReadyH.cons (o := ⟨some 14, _, _, _, _, _⟩) rfl (fun K hK => ?_) (AllReadyH.cons (o := ⟨some 16, _, _, _, _, _⟩) rfl (fun K hK => ?_) AllReadyH.nil))
    · go_simp
      refine hK.out _ _ trivial (fun hHeld => ?_)
      clear hK K
      try simp only [Act.put, List.setIfInBounds_toArray, List.set_cons_zero, List.set_cons_succ]
      refine wpAnyH_ready (rs := [5]) (by kernel_rfl) (by simp) (AllReadyH.cons (o := ⟨some 16, _, _, _, _, _⟩) rfl (fun K hK => ?_) AllReadyH.nil)
      go_simp
      refine HN2.out.mono ?_
      rintro e w3 ⟨hq, k2, rfl⟩
      obtain rfl := hq
      dsimp +zetaDelta only [Exit.inBlock, Exit.then, bodyPost]
      exact ⟨rfl, rfl, hC2.out.drew.drewN k2⟩
    · go_simp
      refine HN2.out.mono ?_
      rintro e w3 ⟨hq, k2, rfl⟩
      obtain rfl := hq
      dsimp +zetaDelta only [Exit.inBlock, Exit.then, bodyPost]
      exact ⟨rfl, rfl, hC2.out.drew.drewN k2⟩
end Go.Proofs.YthgafdbdmemkhaaDoor
