/- PaletteFull: the walk. -/
import Derived.Test.YtnjlklcggcfcgaaFullP
namespace Go.Proofs.Ytnjlklcggcfcgaa
set_option linter.unusedVariables false
open Go.ChangeShapes Go.WideShapes Go.ChangeAt Go.RowKit

theorem copy_full (wr : World) (g cap i : Nat) (cur2 : Array Value) (hgx : wr.heap[g]? = some (.cells cur2 46 (0, 0))) (hs : 4 * i + 4 ≤ cur2.size) (v : Nat) (vI : Int) (hv : vI = (v : Nat)) :
    (Builtin.copy_ #[22, 22] 3 #[.slice (some ⟨g, 4 * i, none⟩) 4 (cap - 4 * i), .slice (some ⟨wr.heap.size, 0, none⟩) 4 4]).run Try.prog (wr.alloc (.cells #[.int .u16 vI, .int .u16 257, .int .u16 0, .int .u16 65535] 46))
      = .ok (goInt 4) ((wr.alloc (.cells #[.int .u16 vI, .int .u16 257, .int .u16 0, .int .u16 65535] 46)).setRow g (setCur cur2 i (pix4 v 257 0 65535))) ∧
    (wr.alloc (.cells #[.int .u16 vI, .int .u16 257, .int .u16 0, .int .u16 65535] 46)).heap[g]? = some (.cells cur2 46 (0, 0)) := by
  subst hv
  have hal := hp_alloc (.cells #[.int .u16 (v : Nat), .int .u16 257, .int .u16 0, .int .u16 65535] 46) hgx
  have hnw := hp_new0 wr (.cells #[.int .u16 (v : Nat), .int .u16 257, .int .u16 0, .int .u16 65535] 46)
  have hrun := run_copy_row (P := Try.prog) (wr.alloc (.cells #[.int .u16 (v : Nat), .int .u16 257, .int .u16 0, .int .u16 65535] 46)) 22 22 3 46 g (4 * i) 4 (cap - 4 * i) ⟨wr.heap.size, 0, none⟩ 4 4 cur2 _ (pix4 v 257 0 65535) Try.underlying22 size38 hal (show 4 = Nat.min 4 4 from rfl)
    (by
      intro j u hj
      match j, hj with
      | 0, hj => exact (hp_cell (j := 0) hnw rfl).trans hj
      | 1, hj => exact (hp_cell (j := 1) hnw rfl).trans hj
      | 2, hj => exact (hp_cell (j := 2) hnw rfl).trans hj
      | 3, hj => exact (hp_cell (j := 3) hnw rfl).trans hj) (by simp [pix4]; omega) (by simp [pix4, Value.oneCell'])
  exact ⟨hrun, hal⟩
set_option maxRecDepth 100000 in
set_option maxHeartbeats 400000 in
theorem full_walk (w : World) : Calls Try.prog 6 #[] w fun e w' => e = .returned (.bool true) ∧ Below w.heap.size w w' := by
  go_enter Try.func6, Try.ntmps6
  go_wp2_with fail
  refine (awake10 _).mono ?_
  rintro e w0 ⟨rfl, hB0⟩
  go_wp2_with fail
  refine (new_ref 17 16 (by unfold In64; omega) (by unfold In64; omega) _).mono ?_
  rintro e w1 ⟨hB, ⟨_, v, rfl, hown⟩ | ⟨h, _⟩⟩
  rotate_left
  · exact absurd sizeF h
  rw [show (4 * (17 : Int) * 16).toNat = 1088 from rfl] at hown
  obtain ⟨hlen, hf⟩ := hown
  rcases hf with ⟨rfl, h0⟩ | ⟨g, cap, cur, rfl, hgb, hg, hnc, hcm, hcs, ht⟩
  · exact absurd h0 (by decide)
  have hc8 : 1088 ≤ cur.size := by omega
  have HW := Lib.hid (hB0.trans (hB.mono hB0.size))
  have hw0 := hB0.size
  have hgl := lt_heap hg
  have hww := HW.out.size
  unfold maxLen at hcm
  clear hB0 hB ht hlen hcs
  go_wp2_with fail
  have hb0 : (w1.alloc (.cells #[.int .i64 17, .int .i64 16, .slice (some ⟨g, 0, none⟩) 1088 cap] 24)).heap[w1.heap.size]? = _ := hp_new0 w1 (.cells #[.int .i64 17, .int .i64 16, .slice (some ⟨g, 0, none⟩) 1088 cap] 24)
  have hg0 := hp_alloc (.cells #[.int .i64 17, .int .i64 16, .slice (some ⟨g, 0, none⟩) 1088 cap] 24) hg
  have HB0 := Lib.hid (HW.out.alloc hww (.cells #[.int .i64 17, .int .i64 16, .slice (some ⟨g, 0, none⟩) 1088 cap] 24))
  clear HW hg
  go_loopw [3, 4] (fun x k wr => ∃ (i : Nat) (cur' : Array Value), i ≤ 272 ∧ x = .int .i64 i ∧ wr.heap[w1.heap.size]? = some (.cells #[.int .i64 17, .int .i64 16, .slice (some ⟨g, 0, none⟩) 1088 cap] 24 (0, 0)) ∧ wr.heap[g]? = some (.cells cur' 46 (0, 0)) ∧ 1088 ≤ cur'.size ∧ (∀ j, j < 4 * i → cur'[j]? = some (.int .u16 (cF j : Nat))) ∧ Below w.heap.size w wr) (fun x _ _ => 272 - (intOf x).toNat)
  case atStart => exact ⟨0, cur, by omega, rfl, hb0, hg0, hc8, fun j hj => absurd hj (by omega), HB0.out⟩
  case round =>
    obtain ⟨i, cur2, hi, rfl, hbx, hgx, hs2, hc2, hB⟩ := hrel
    clear hb0 hg0 HB0
    have k0 := hp_cell (j := 0) hbx rfl
    have k1 := hp_cell (j := 1) hbx rfl
    have k2 := hp_cell (j := 2) hbx rfl
    by_cases hlt : i < 272
    · obtain ⟨q, hq⟩ : ∃ q, q = kF i := ⟨_, rfl⟩
      have hq5 : q ≤ 255 := by rw [hq]; exact kF_le i
      have hmin : min (i : Int) 255 = (q : Int) := by rw [hq]; unfold kF; split <;> omega
      have hq0 := hq
      have hck : ¬cap = 4 * i := by omega
      have hlI : (4 : Int) * (i : Int) + 4 ≤ 1088 := by omega
      have hlC : (4 : Int) * (i : Int) + 4 ≤ (cap : Int) := by omega
      have hkn : (0 : Int) ≤ (i : Int) := by omega
      have hsl := lt_heap hgx
      have hbl := lt_heap hbx
      by_cases h255 : i ≤ 255
      · have hqi : q = i := by rw [hq]; unfold kF; split <;> omega
        obtain ⟨hrun, HN⟩ := copy_full wr g cap i cur2 hgx (by omega) (i * 257) ((i : Int) * 257) (by simp)
        have HN' := Lib.hid HN
        have HC2 := Lib.hid hc2
        have HX := Lib.hid hbx
        have HQ := Lib.hid (hqi.symm.trans hq)
        clear hq hq0 hqi hmin HN hc2 hbx hgx
        go_wp2_with fail
        go_roundw
        case rel => exact ⟨i + 1, setCur cur2 i (pix4 (i * 257) 257 0 65535), hlt, by go_num, (setRow_other _ g w1.heap.size _ (by omega)).trans (hp_alloc _ HX.out), setRow_heap _ _ _ _ _ _ HN'.out, by rw [setCur_size _ _ _ (by simp [pix4]; omega)]; exact hs2, by have h9 := cF_set HC2.out (by omega); rw [← HQ.out] at h9; exact h9, below_setRow (hB.alloc hB.size _) (by omega) _⟩
        case measure => simp [intOf]; omega
      · have hqi : q = 255 := by rw [hq]; unfold kF; split <;> omega
        obtain ⟨hrun, HN⟩ := copy_full wr g cap i cur2 hgx (by omega) (255 * 257) 65535 (by simp)
        have HN' := Lib.hid HN
        have HC2 := Lib.hid hc2
        have HX := Lib.hid hbx
        have HQ := Lib.hid (hqi.symm.trans hq)
        clear hq hq0 hqi hmin HN hc2 hbx hgx
        go_wp2_with fail
        go_roundw
        case rel => exact ⟨i + 1, setCur cur2 i (pix4 (255 * 257) 257 0 65535), hlt, by go_num, (setRow_other _ g w1.heap.size _ (by omega)).trans (hp_alloc _ HX.out), setRow_heap _ _ _ _ _ _ HN'.out, by rw [setCur_size _ _ _ (by simp [pix4]; omega)]; exact hs2, by have h9 := cF_set HC2.out (by omega); rw [← HQ.out] at h9; exact h9, below_setRow (hB.alloc hB.size _) (by omega) _⟩
        case measure => simp [intOf]; omega
    · obtain rfl : i = 272 := by omega
      have hs1 := lt_heap hbx
      have hsg := lt_heap hgx
      have HP := Lib.hid (show ∀ j, j < 4 * 272 → wr.cell? ⟨g, 0 + j, none⟩ = some (.int .u16 (cF j : Nat)) from fun j hj => by rw [Nat.zero_add]; exact hp_cell hgx (hc2 j hj))
      have HC2 := Lib.hid hc2
      clear hc2
      have HW := Lib.hid hB
      clear hB
      go_wp2_with fail
      refine (make_yes 17 16 g 0 cap cF cF_lt 272 (by unfold In64; omega) (by unfold In64; omega) fitF (by omega) (by omega) (by omega) (by unfold maxLen; omega) _ hsg HP.out).mono ?_
      rintro e w2 ⟨⟨v, u, rfl, hv, hu⟩, hB⟩
      rw [UF] at hv
      rw [clF]
      obtain ⟨Av, cv, rfl, hv1, hv2, hV⟩ := sl_of_own hv
      have hbx2 := hp_below hbx hB hs1
      have hgx2 := hp_below hgx hB hsg
      have HW2 := Lib.hid (HW.out.trans (hB.mono HW.out.size))
      have hs3 := hB.size
      have hww2 := HW.out.size
      clear hv hu hV hB k0 k1 k2 hbx hgx HW HP
      have hbx3 := hp_alloc (.cells #[.slice Av 256 cv, .int .i64 (-1)] 28) hbx2
      have hgx3 := hp_alloc (.cells #[.slice Av 256 cv, .int .i64 (-1)] 28) hgx2
      have hpx3 := hp_new0 w2 (.cells #[.slice Av 256 cv, .int .i64 (-1)] 28)
      have HW3 := Lib.hid (HW2.out.alloc HW2.out.size (.cells #[.slice Av 256 cv, .int .i64 (-1)] 28))
      have k0 := hp_cell (j := 0) hbx3 rfl
      have k1 := hp_cell (j := 1) hbx3 rfl
      have k2 := hp_cell (j := 2) hbx3 rfl
      have kg : (w2.alloc (.cells #[.slice Av 256 cv, .int .i64 (-1)] 28)).cell? ⟨g, 1041, none⟩ = some (.int .u16 (cF 1041 : Nat)) := hp_cell hgx3 (HC2.out 1041 (by omega))
      have fg : ∀ j, (w2.alloc (.cells #[.slice Av 256 cv, .int .i64 (-1)] 28)).frozen? ⟨g, j, none⟩ = false := fun j => by simp [World.frozen?, hgx3]
      have hgn : ¬g = w1.heap.size := by omega
      have hgn2 : ¬w1.heap.size = g := by omega
      generalize hW4 : (w2.alloc (.cells #[.slice Av 256 cv, .int .i64 (-1)] 28)).setCell ⟨g, 1041, none⟩ (.int .u16 514) = w4
      have hbx4 : w4.heap[w1.heap.size]? = some (.cells #[.int .i64 17, .int .i64 16, .slice (some ⟨g, 0, none⟩) 1088 cap] 24 (0, 0)) := by rw [← hW4]; exact ((grown_set _ g 1041 (.int .u16 514)).block _ (lt_heap hbx3) (fun e => by injection e; omega)).trans hbx3
      have hpx4 : w4.heap[w2.heap.size]? = some (.cells #[.slice Av 256 cv, .int .i64 (-1)] 28 (0, 0)) := by rw [← hW4]; exact ((grown_set _ g 1041 (.int .u16 514)).block _ (lt_heap hpx3) (fun e => by injection e; omega)).trans hpx3
      have hgx4 : w4.heap[g]? = some (.cells (cur2.setIfInBounds 1041 (.int .u16 514)) 46 (0, 0)) := by rw [← hW4]; exact heap_set hgx3
      have HW4 := Lib.hid (show Below w.heap.size w w4 by rw [← hW4]; exact HW3.out.setCell (p := ⟨g, 1041, none⟩) (by simp; omega) _)
      have j0 := hp_cell (j := 0) hbx4 rfl
      have j1 := hp_cell (j := 1) hbx4 rfl
      have j2 := hp_cell (j := 2) hbx4 rfl
      have hP4 : Pix w4 (some ⟨g, 0, none⟩) (4 * 272) cG := fun _ => ⟨g, 0, rfl, lt_heap hgx4, fun j hj => by rw [Nat.zero_add]; exact hp_cell hgx4 (cG_set HC2.out hs2 j hj)⟩
      have hP4' := Lib.hid hP4
      clear hP4
      go_wp2_with fail
      refine (make_no 17 16 _ (4 * 272) cap cG cG_lt (by unfold In64; omega) (by unfold In64; omega) fitG (by omega) (by unfold maxLen; omega) _ hP4'.out).mono ?_
      rintro e w5 ⟨rfl, hB⟩
      have hpx5 := hp_below hpx4 hB (lt_heap hpx4)
      have HW5 := Lib.hid (HW4.out.trans (hB.mono HW4.out.size))
      clear kg fg hW4 k0 k1 k2 j0 j1 j2 hbx4 hgx4 hbx3 hgx3 hpx3 hpx4 hB HW2 HW3 HW4
      have hpx6 := hp_alloc (.cells #[.slice none 0 0, .int .i64 0] 28) hpx5
      have HW6 := Lib.hid (HW5.out.alloc HW5.out.size (.cells #[.slice none 0 0, .int .i64 0] 28))
      have k0 := hp_cell (j := 0) hpx6 rfl
      have k1 := hp_cell (j := 1) hpx6 rfl
      go_wp2_with fail
      refine (bits_prog 256 (by unfold In64; omega) _).mono ?_
      rintro e w6 ⟨rfl, rfl⟩
      go_wp2_with fail
      refine (bits_prog 0 (by unfold In64; omega) _).mono ?_
      rintro e w6 ⟨rfl, rfl⟩
      go_wp2_with fail
      refine (bits_prog 1000 (by unfold In64; omega) _).mono ?_
      rintro e w6 ⟨rfl, rfl⟩
      go_wp2
      go_ret
      exact ⟨rfl, HW6.out⟩
end Go.Proofs.Ytnjlklcggcfcgaa
