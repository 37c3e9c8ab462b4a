/- engraverlaw8.awake. -/
import Derived.Test.YtlefaobmpbbcaaaSet
namespace Go.Proofs.Ytlefaobmpbbcaaa
set_option linter.unusedVariables false
open Go.ChangeShapes Go.WideShapes Go.ChangeAt Go.RowKit

def cA (j : Nat) : Nat := if j = 20 then 1 else if j = 21 then 2 else if j = 22 then 3 else if j = 23 then 4 else 0
theorem cA_lt (i : Nat) : cA i < 65536 := by unfold cA; (repeat' split) <;> omega
theorem size23 : sizeE 2 3 = 0 := by decide
theorem may24 : mayB 2 3 (4 * 6) = true := by decide
theorem in12 : inB 2 3 24 1 2 = true := by decide
theorem colN6 : colN cA 6 9 = 2 := by kernel_rfl
theorem colB6 : colB cA 6 9 = true := by kernel_rfl
theorem getA : getV 2 3 24 cA 1 2 = .agg #[.int .u16 1, .int .u16 2, .int .u16 3, .int .u16 4] := by kernel_rfl
theorem cA_cells (cur : Array Value) (h : cur.toList.take 24 = zeros 24) (j : Nat) (hj : j < 24) : (setCur cur 5 (pix4 1 2 3 4))[j]? = some (.int .u16 (cA j : Nat)) := by
  have hl : 24 ≤ cur.toList.length := by have := congrArg List.length h; simp [zeros, madeCells] at this; simp; omega
  have ht : ∀ i, i < 24 → cur.toList[i]? = some (.int .u16 0) := fun i hi => by
    have := congrArg (fun l => l[i]?) h
    simp only [List.getElem?_take, hi, if_true] at this
    rw [this]
    exact zeros_get 24 i hi
  have e1 : (cur.toList.take (4 * 5)).length = 20 := by rw [List.length_take]; omega
  unfold setCur
  rw [List.getElem?_toArray, List.append_assoc]
  by_cases h1 : j < 20
  · rw [List.getElem?_append_left (by omega), List.getElem?_take, if_pos (by omega), ht j hj]
    have : cA j = 0 := by unfold cA; rw [if_neg (by omega), if_neg (by omega), if_neg (by omega), if_neg (by omega)]
    rw [this]; rfl
  · rw [List.getElem?_append_right (by omega), e1]
    rw [List.getElem?_append_left (by simp [pix4]; omega)]
    obtain rfl | rfl | rfl | rfl : j = 20 ∨ j = 21 ∨ j = 22 ∨ j = 23 := by omega
    all_goals rfl
set_option maxRecDepth 100000 in
set_option maxHeartbeats 2000000 in
theorem awake8 (w : World) : Calls Try.prog 8 #[] w fun e w' => e = .returned (.bool true) ∧ Below w.heap.size w w' := by
  go_enter Try.func8, Try.ntmps8
  go_wp2_with fail
  refine (new_prog 2 3 (by unfold In64; omega) (by unfold In64; omega) _).mono ?_
  rintro e w1 ⟨hB1, ⟨_, v, rfl, hown⟩ | ⟨h, _⟩⟩
  rotate_left
  · exact absurd size23 h
  have hn : (4 * (2 : Int) * 3).toNat = 24 := rfl
  rw [hn] at hown
  obtain ⟨hlen, hf⟩ := hown
  rcases hf with ⟨rfl, h0⟩ | ⟨g, cap, cur, rfl, hgb, hg, hnc, hcm, hcs, ht⟩
  · exact absurd h0 (by decide)
  have hgl : g < w1.heap.size := (Array.getElem?_eq_some_iff.1 hg).1
  have hSw : w.heap.size ≤ w1.heap.size := hB1.size
  go_wp2_with fail
  refine (set_prog 2 3 g 24 cap 1 2 1 2 3 4 (by unfold In64; omega) (by unfold In64; omega) hnc hcm _ cur (hp_alloc _ hg) (by omega) 5 in12 rfl (by omega)).mono ?_
  rintro e w2 ⟨rfl, hgr2, hg2⟩
  have hs1 : w1.heap.size + 1 ≤ w2.heap.size := by have := hgr2.size; rw [World.size_alloc] at this; exact this
  have hb2 : w2.heap[w1.heap.size]? = _ := (hgr2.block _ (by simp) (by simp; omega)).trans (hp_new0 w1 (.cells #[.int .i64 2, .int .i64 3, .slice (some ⟨g, 0, none⟩) 24 cap] 25))
  have hP2 : Pix w2 (some ⟨g, 0, none⟩) 24 cA := fun _ => ⟨g, 0, rfl, by omega, fun j hj => by rw [Nat.zero_add]; exact hp_cell hg2 (cA_cells cur ht j hj)⟩
  have hA2 : Below w.heap.size w w2 := (hB1.trans ((Below.refl _ w1).alloc hSw _)).grown hgr2 (by simp; omega) (fun k e => by cases e; omega)
  clear hgr2 hg2 hg hcs ht hlen
  have k0 := hp_cell (j := 0) hb2 rfl
  have k1 := hp_cell (j := 1) hb2 rfl
  have k2 := hp_cell (j := 2) hb2 rfl
  go_wp2_with fail
  refine (get_prog 2 3 _ 24 cap cA 1 2 (by unfold In64; omega) (by unfold In64; omega) hnc hcm w2 hP2).mono ?_
  rintro e w3 ⟨hB3, rfl⟩
  rw [in12, getA]
  have hb3 := hp_below hb2 hB3 (by omega)
  have hP3 := hP2.below hB3
  have hA3 := hA2.trans (hB3.mono hA2.size)
  have hs3 : w1.heap.size + 1 ≤ w3.heap.size := Nat.le_trans hs1 hB3.size
  clear k0 k1 k2 hb2 hP2 hA2 hB3 hs1
  have hb4 := hp_alloc (.cells #[.int .u16 1, .int .u16 2, .int .u16 3, .int .u16 4] 41) hb3
  have k0 := hp_cell (j := 0) hb4 rfl
  have k1 := hp_cell (j := 1) hb4 rfl
  have k2 := hp_cell (j := 2) hb4 rfl
  go_wp2_with fail
  have hA4 := hA3.alloc hA3.size (.cells #[.int .u16 1, .int .u16 2, .int .u16 3, .int .u16 4] 41)
  have hP4 := hP3.below ((Below.refl _ w3).alloc (Nat.le_refl _) (.cells #[.int .u16 1, .int .u16 2, .int .u16 3, .int .u16 4] 41))
  have hc4 := hp_new0 w3 (.cells #[.int .u16 1, .int .u16 2, .int .u16 3, .int .u16 4] 41)
  have hs4 : (w3.alloc (.cells #[.int .u16 1, .int .u16 2, .int .u16 3, .int .u16 4] 41)).heap.size = w3.heap.size + 1 := World.size_alloc _ _
  obtain ⟨_, _, he, hbk, hcl⟩ := hP4 (by omega)
  cases he
  refine (col_may 2 3 g 0 cap cA cA_lt 6 9 (by unfold In64; omega) (by unfold In64; omega) may24 (by omega) (by omega) hnc hcm _ hbk hcl).mono ?_
  rintro e w5 ⟨rfl, hB5⟩
  rw [colN6, colB6]
  rw [hs4] at hB5
  have hb5 := hp_below hb4 hB5 (by omega)
  have hc5 := hp_below hc4 hB5 (by omega)
  have hA5 := hA4.trans (hB5.mono (by have := hA3.size; omega))
  clear k0 k1 k2 hb4 hc4 hP3 hP4 hA3 hA4 hB5 hcl hs4 hb3
  have k0 := hp_cell (j := 0) hb5 rfl
  have k1 := hp_cell (j := 1) hb5 rfl
  have k2 := hp_cell (j := 2) hb5 rfl
  have l0 := hp_cell (j := 0) hc5 rfl
  have l1 := hp_cell (j := 1) hc5 rfl
  have l2 := hp_cell (j := 2) hc5 rfl
  have l3 := hp_cell (j := 3) hc5 rfl
  have hE : ∀ W, (Op.equalIn 10000 41 (.agg #[.int .u16 1, .int .u16 2, .int .u16 3, .int .u16 4]) (.agg #[.int .u16 1, .int .u16 2, .int .u16 3, .int .u16 4])).run Try.prog W = .ok true W := fun W => by kernel_rfl
  go_wp2_with fail
  refine (may_prog 2 3 _ 24 cap (by unfold In64; omega) (by unfold In64; omega) hnc hcm _).mono ?_
  rintro e w6 ⟨rfl, hB6⟩
  have hmy : mayB 2 3 24 = true := may24
  rw [hmy]
  go_wp2
  go_ret
  exact ⟨rfl, hA5.trans (hB6.mono hA5.size)⟩
end Go.Proofs.Ytlefaobmpbbcaaa
