/- engraverlaw10.awake. -/
import Derived.Test.YtnjlklcggcfcgaaStr
import Derived.Test.YtnjlklcggcfcgaaMakR
import Derived.Test.YtnjlklcggcfcgaaSame
import Derived.Test.YtnjlklcggcfcgaaCopy
namespace Go.Proofs.Ytnjlklcggcfcgaa
set_option linter.unusedVariables false
open Go.ChangeShapes Go.WideShapes Go.ChangeAt Go.RowKit

theorem sameB_refl {a b : Int} {n : Nat} (c : Nat → Nat) (h : mayB a b n = true) : sameB a b n c a b n c = true := by
  simp [sameB, h, allEq_t (c := c) (d := c) (fun _ _ => rfl)]
def cK (j : Nat) : Nat := if j = 3 then 65535 else 0
theorem cK_lt (i : Nat) : cK i < 65536 := by unfold cK; split <;> omega
theorem sizeK : sizeE 2 1 = 0 := by decide
theorem U_K : U cK 2 = [(0, 0, 0, 65535), (0, 0, 0, 0)] := by kernel_rfl
theorem fitK : fitsB 2 1 (4 * 2) cK 2 = true := by kernel_rfl
theorem cl_K : clearIx [(0, 0, 0, 65535), (0, 0, 0, 0)] = 1 := by kernel_rfl
theorem pl_K : pl cK 2 = [0, 1] := by kernel_rfl
theorem drawE_K : drawE 2 1 2 [(0, 0, 0, 65535), (0, 0, 0, 0)] (byteAt [0, 1]) = 0 := by kernel_rfl
theorem same_K : sameB 2 1 8 (drawC [(0, 0, 0, 65535), (0, 0, 0, 0)] (byteAt [0, 1])) 2 1 8 cK = true := by kernel_rfl
theorem str_K : strB 2 (byteAt [0, 1]) = { data := #[0, 1] } := by kernel_rfl
theorem cK_cells (cur : Array Value) (h : cur.toList.take 8 = zeros 8) (j : Nat) (hj : j < 8) : (cur.setIfInBounds 3 (.int .u16 65535))[j]? = some (.int .u16 (cK j : Nat)) := by
  have hl : 8 ≤ cur.toList.length := by have := congrArg List.length h; simp [zeros, madeCells] at this; simp; omega
  have ht : ∀ i, i < 8 → cur.toList[i]? = some (.int .u16 0) := fun i hi => by
    have := congrArg (fun l => l[i]?) h
    simp only [List.getElem?_take, hi, if_true] at this
    rw [this]
    exact zeros_get 8 i hi
  unfold cK
  by_cases e : j = 3
  · subst e
    simp [Array.getElem?_setIfInBounds]
    simp at hl; omega
  · rw [if_neg e, Array.getElem?_setIfInBounds, if_neg (by omega), ← Array.getElem?_toList, ht j hj]
    rfl

set_option maxRecDepth 100000 in
set_option maxHeartbeats 2000000 in
theorem awake10 (w : World) : Calls Try.prog 9 #[] w fun e w' => e = .returned (.bool true) ∧ Below w.heap.size w w' := by
  have HW := Lib.hid (Below.refl w.heap.size w)
  go_enter Try.func9, Try.ntmps9
  go_wp2_with fail
  refine (new_ref 2 1 (by unfold In64; omega) (by unfold In64; omega) _).mono ?_
  rintro e w1 ⟨hB, ⟨_, v, rfl, hown⟩ | ⟨h, _⟩⟩
  rotate_left
  · exact absurd sizeK h
  rw [show (4 * (2 : Int) * 1).toNat = 8 from rfl] at hown
  obtain ⟨hlen, hf⟩ := hown
  rcases hf with ⟨rfl, h0⟩ | ⟨g, cap, cur, rfl, hgb, hg, hnc, hcm, hcs, ht⟩
  · exact absurd h0 (by decide)
  replace HW := Lib.hid (HW.out.trans (hB.mono HW.out.size))
  clear hB
  have hgl : g < w1.heap.size := (Array.getElem?_eq_some_iff.1 hg).1
  have hWs := HW.out.size
  have bR := hp_new0 (w1) (.cells #[.int .i64 2, .int .i64 1, .slice (some ⟨g, 0, none⟩) 8 cap] 24)
  replace HW := Lib.hid (HW.out.alloc HW.out.size (.cells #[.int .i64 2, .int .i64 1, .slice (some ⟨g, 0, none⟩) 8 cap] 24))
  replace hg := hp_alloc (.cells #[.int .i64 2, .int .i64 1, .slice (some ⟨g, 0, none⟩) 8 cap] 24) hg
  have hc8 : 8 ≤ cur.size := by have := congrArg List.length ht; simp [zeros, madeCells] at this; omega
  have kg : (w1.alloc (.cells #[.int .i64 2, .int .i64 1, .slice (some ⟨g, 0, none⟩) 8 cap] 24)).cell? ⟨g, 3, none⟩ = some (.int .u16 0) := hp_cell hg (by have h1 := cK_cells cur ht; rw [← Array.getElem?_toList]; have := congrArg (fun l => l[3]?) ht; simp only [List.getElem?_take, show (3 : Nat) < 8 by omega, if_true] at this; rw [this]; exact zeros_get 8 3 (by omega))
  have fg : ∀ j, (w1.alloc (.cells #[.int .i64 2, .int .i64 1, .slice (some ⟨g, 0, none⟩) 8 cap] 24)).frozen? ⟨g, j, none⟩ = false := fun j => by simp [World.frozen?, hg]
  have kR_0 := hp_cell (j := 0) bR rfl
  have kR_1 := hp_cell (j := 1) bR rfl
  have kR_2 := hp_cell (j := 2) bR rfl
  have hgne : ¬g = w1.heap.size := by omega
  have hgne2 : ¬w1.heap.size = g := by omega
  have HG := Lib.hid hg
  have HT := Lib.hid ht
  clear hg ht hcs hlen
  generalize hW2 : (w1.alloc (.cells #[.int .i64 2, .int .i64 1, .slice (some ⟨g, 0, none⟩) 8 cap] 24)).setCell ⟨g, 3, none⟩ (.int .u16 65535) = w2
  have hP : Pix w2 (some ⟨g, 0, none⟩) 8 cK := fun _ => ⟨g, 0, rfl, by rw [← hW2]; simp; omega, fun j hj => by rw [Nat.zero_add, ← hW2]; exact hp_cell (heap_set HG.out) (cK_cells cur HT.out j hj)⟩
  have bR2 : w2.heap[w1.heap.size]? = some (.cells #[.int .i64 2, .int .i64 1, .slice (some ⟨g, 0, none⟩) 8 cap] 24 (0, 0)) := by rw [← hW2]; exact ((grown_set _ g 3 (.int .u16 65535)).block _ (lt_heap bR) (fun e => by injection e; omega)).trans bR
  have HW2 := Lib.hid (show Below w.heap.size w w2 by rw [← hW2]; exact HW.out.setCell (p := ⟨g, 3, none⟩) (by simp; omega) _)
  have k2_0 := hp_cell (j := 0) bR2 rfl
  have k2_1 := hp_cell (j := 1) bR2 rfl
  have k2_2 := hp_cell (j := 2) bR2 rfl
  have s2 : w1.heap.size < w2.heap.size := lt_heap bR2
  clear HW bR HT
  go_wp2_with fail
  clear kR_0 kR_1 kR_2
  clear kg fg HG hW2 k2_0 k2_1 k2_2
  have HW := HW2
  clear HW2
  have bR := bR2
  clear bR2
  obtain ⟨_, _, he, hbk, hcl⟩ := hP (by omega)
  cases he
  refine (make_yes 2 1 g 0 cap cK cK_lt 2 (by unfold In64; omega) (by unfold In64; omega) fitK (by omega) (by omega) hnc hcm _ hbk hcl).mono ?_
  rintro e w3 ⟨⟨v, u, rfl, hv, hu⟩, hB⟩
  replace bR := hp_below bR hB (Array.getElem?_eq_some_iff.1 bR).1
  replace hP := hP.below hB
  replace HW := Lib.hid (HW.out.trans (hB.mono HW.out.size))
  clear hB
  clear hbk hcl
  rw [U_K] at hv
  rw [pl_K] at hu
  rw [U_K, cl_K]
  obtain ⟨Av, cv, rfl, hv1, hv2, hV⟩ := sl_of_own hv
  obtain ⟨Au, cu, rfl, hu1, hu2, hU⟩ := byt_of_own hu
  clear hv hu
  replace bR := hp_alloc (.cells #[.slice Av 2 cv, .int .i64 1] 28) bR
  have bQ := hp_new0 (w3) (.cells #[.slice Av 2 cv, .int .i64 1] 28)
  replace hP := hP.below ((Below.refl _ (w3)).alloc (Nat.le_refl _) (.cells #[.slice Av 2 cv, .int .i64 1] 28))
  replace hV := hV.below ((Below.refl _ (w3)).alloc (Nat.le_refl _) (.cells #[.slice Av 2 cv, .int .i64 1] 28))
  replace hU := hU.below ((Below.refl _ (w3)).alloc (Nat.le_refl _) (.cells #[.slice Av 2 cv, .int .i64 1] 28))
  replace HW := Lib.hid (HW.out.alloc HW.out.size (.cells #[.slice Av 2 cv, .int .i64 1] 28))
  have kR_0 := hp_cell (j := 0) bR rfl
  have kR_1 := hp_cell (j := 1) bR rfl
  have kR_2 := hp_cell (j := 2) bR rfl
  have kQ_0 := hp_cell (j := 0) bQ rfl
  have kQ_1 := hp_cell (j := 1) bQ rfl
  go_wp2_with fail
  refine (draw_prog 2 1 Av cv 1 [(0, 0, 0, 65535), (0, 0, 0, 0)] Au 2 cu (byteAt [0, 1]) (by unfold In64; omega) (by unfold In64; omega) (by decide) (byteAt_lt _) hu1 hu2 _ hV hU).mono ?_
  rintro e w4 ⟨⟨_, _, A4, cap4, rfl, hN⟩ | ⟨h, _⟩, hB⟩
  rotate_left
  · exact absurd drawE_K h
  clear kR_0 kR_1 kR_2 kQ_0 kQ_1
  replace bR := hp_below bR hB (Array.getElem?_eq_some_iff.1 bR).1
  replace bQ := hp_below bQ hB (Array.getElem?_eq_some_iff.1 bQ).1
  replace hP := hP.below hB
  replace hV := hV.below hB
  replace hU := hU.below hB
  replace HW := Lib.hid (HW.out.trans (hB.mono HW.out.size))
  clear hB
  obtain ⟨hn4, hm4, hz4, hO⟩ := hN
  replace bR := hp_alloc (.cells #[.int .i64 2, .int .i64 1, .slice A4 8 cap4] 24) bR
  replace bQ := hp_alloc (.cells #[.int .i64 2, .int .i64 1, .slice A4 8 cap4] 24) bQ
  have bS := hp_new0 (w4) (.cells #[.int .i64 2, .int .i64 1, .slice A4 8 cap4] 24)
  replace hP := hP.below ((Below.refl _ (w4)).alloc (Nat.le_refl _) (.cells #[.int .i64 2, .int .i64 1, .slice A4 8 cap4] 24))
  replace hV := hV.below ((Below.refl _ (w4)).alloc (Nat.le_refl _) (.cells #[.int .i64 2, .int .i64 1, .slice A4 8 cap4] 24))
  replace hU := hU.below ((Below.refl _ (w4)).alloc (Nat.le_refl _) (.cells #[.int .i64 2, .int .i64 1, .slice A4 8 cap4] 24))
  replace hO := hO.below ((Below.refl _ (w4)).alloc (Nat.le_refl _) (.cells #[.int .i64 2, .int .i64 1, .slice A4 8 cap4] 24))
  replace HW := Lib.hid (HW.out.alloc HW.out.size (.cells #[.int .i64 2, .int .i64 1, .slice A4 8 cap4] 24))
  have kR_0 := hp_cell (j := 0) bR rfl
  have kR_1 := hp_cell (j := 1) bR rfl
  have kR_2 := hp_cell (j := 2) bR rfl
  have kQ_0 := hp_cell (j := 0) bQ rfl
  have kQ_1 := hp_cell (j := 1) bQ rfl
  have kS_0 := hp_cell (j := 0) bS rfl
  have kS_1 := hp_cell (j := 1) bS rfl
  have kS_2 := hp_cell (j := 2) bS rfl
  have hs0 : (convert 29 9 (.slice Au 2 cu)).run Try.prog (((w4).alloc (.cells #[.int .i64 2, .int .i64 1, .slice A4 8 cap4] 24))) = .ok (.string { data := #[0, 1] }) (((w4).alloc (.cells #[.int .i64 2, .int .i64 1, .slice A4 8 cap4] 24))) := (run_str hU).trans (by rw [str_K])
  go_wp2_with fail
  refine (same_ref 2 1 A4 8 cap4 _ 2 1 (some ⟨g, 0, none⟩) 8 cap cK (by unfold In64; omega) (by unfold In64; omega) (by unfold In64; omega) (by unfold In64; omega) hn4 hm4 hnc hcm _ hO.pix hP).mono ?_
  rintro e w5 ⟨rfl, hB⟩
  rw [same_K]
  clear kR_0 kR_1 kR_2 kQ_0 kQ_1 kS_0 kS_1 kS_2
  replace bR := hp_below bR hB (Array.getElem?_eq_some_iff.1 bR).1
  replace bQ := hp_below bQ hB (Array.getElem?_eq_some_iff.1 bQ).1
  replace bS := hp_below bS hB (Array.getElem?_eq_some_iff.1 bS).1
  replace hP := hP.below hB
  replace hV := hV.below hB
  replace hU := hU.below hB
  replace hO := hO.below hB
  replace HW := Lib.hid (HW.out.trans (hB.mono HW.out.size))
  clear hB
  clear hs0
  go_wp2_with fail
  refine (bits_prog 3 (by unfold In64; omega) _).mono ?_
  rintro e w6 ⟨rfl, rfl⟩
  go_wp2
  go_ret
  exact ⟨rfl, HW.out⟩
end Go.Proofs.Ytnjlklcggcfcgaa
