/- Layer 19's awake. -/
import Derived.Test.YthgafdbdmemkhaaNoi
namespace Go.Proofs.Ythgafdbdmemkhaa
set_option linter.unusedVariables false
open Go.ChangeShapes Go.WideShapes Go.ChangeAt Go.RowKit

theorem size11 : sizeE ((1 : Nat) : Int) ((1 : Nat) : Int) = 0 := by decide
theorem may11 : mayB ((1 : Nat) : Int) ((1 : Nat) : Int) (4 * 1) = true := by decide
def cW : Nat → Nat := up1 (up1 (fun _ => 0) 2 257) 3 514
theorem cW_byl : Byl cW := (Byl.up (Byl.up (fun i => ⟨by omega, rfl⟩) ⟨by omega, rfl⟩) ⟨by omega, rfl⟩)
theorem same_self19 {a b : Int} {n : Nat} (c : Nat → Nat) (h : mayB a b n = true) : sameB a b n c a b n c = true := by
  simp [sameB, h, allEq]
set_option maxRecDepth 100000 in
set_option maxHeartbeats 4000000 in
theorem awake19 (w : World) : Calls Try.prog 5 #[] w fun e w' => e = .returned (.bool true) ∧ Below w.heap.size w w' := by
  go_enter Try.func5, Try.ntmps5
  go_wp2_with fail
  refine (new_ref (1 : Nat) (1 : Nat) (by unfold In64; omega) (by unfold In64; omega) _).mono ?_
  rintro e w3 ⟨hB, ⟨_, v, rfl, hown⟩ | ⟨h, _⟩⟩
  rotate_left
  · exact absurd size11 h
  have h4N : (4 * ((1 : Nat) : Int) * ((1 : Nat) : Int)).toNat = 4 * 1 := rfl
  rw [h4N, zeros_16] at hown
  obtain ⟨A', cap', rfl, hn', hc', _, hO⟩ := NewRow.of_row hown
  obtain ⟨g, cur, rfl, hgB, _⟩ := hO (by omega)
  have hgr : g < w3.heap.size := (hO.lt g (by omega) rfl).2
  have hal : Below w3.heap.size w3 (w3.alloc (.cells #[.int .i64 1, .int .i64 1, .slice (some ⟨g, 0, none⟩) 4 cap'] 26)) := (Below.refl _ w3).alloc (Nat.le_refl _) _
  have HR4 := Lib.hid (hp_new0 w3 (.cells #[.int .i64 1, .int .i64 1, .slice (some ⟨g, 0, none⟩) 4 cap'] 26))
  have HB5 := Lib.hid (hB.trans (hal.mono hB.size))
  have hO5 := hO.below hal
  have HO5 := Lib.hid hO5
  have hs3 := hB.size
  clear hal hO hB hown
  go_wp2_with fail
  generalize w3.alloc (.cells #[.int .i64 1, .int .i64 1, .slice (some ⟨g, 0, none⟩) 4 cap'] 26) = w5 at *
  obtain ⟨rb, hrb⟩ : ∃ rb, rb = w3.heap.size := ⟨_, rfl⟩
  rw [← hrb] at HR4 hs3 hgr ⊢
  clear hrb
  have k2 := hp_cell (j := 2) HR4.out rfl
  obtain ⟨c2, f2, hgB2, hgl⟩ := own_cell HO5.out (show 2 < 4 * 1 by omega)
  obtain ⟨c3, f3, _, _⟩ := own_cell HO5.out (show 3 < 4 * 1 by omega)
  have hO6 : Own (w.heap.size + 1) (((w5.setCell ⟨g, 2, none⟩ (.int .u16 257)).setCell ⟨g, 3, none⟩ (.int .u16 514)).drew) (some ⟨g, 0, none⟩) (4 * 1) cW := (own_put (own_put HO5.out 2 257) 3 514).below ((Below.refl _ _).drew)
  have hR6 : (((w5.setCell ⟨g, 2, none⟩ (.int .u16 257)).setCell ⟨g, 3, none⟩ (.int .u16 514)).drew).heap[rb]? = some (.cells #[.int .i64 1, .int .i64 1, .slice (some ⟨g, 0, none⟩) 4 cap'] 26 (0, 0)) := hp_oth (hp_oth HR4.out (show ¬rb = g by omega)) (show ¬rb = g by omega)
  have hB6 : Below w.heap.size w (((w5.setCell ⟨g, 2, none⟩ (.int .u16 257)).setCell ⟨g, 3, none⟩ (.int .u16 514)).drew) := ((HB5.out.setCell (p := ⟨g, 2, none⟩) (by simp; omega) (.int .u16 (257 : Nat))).setCell (p := ⟨g, 3, none⟩) (by simp; omega) (.int .u16 (514 : Nat))).drew
  have HO6 := Lib.hid hO6
  have HR6 := Lib.hid hR6
  have HB6 := Lib.hid hB6
  clear hO6 hR6 hB6 hO5
  go_region
  all_goals
    generalize (((w5.setCell ⟨g, 2, none⟩ (.int .u16 257)).setCell ⟨g, 3, none⟩ (.int .u16 514)).drew) = w6 at *
    clear c2 f2 c3 f3 k2
    have k0 := hp_cell (j := 0) HR6.out rfl
    have k1 := hp_cell (j := 1) HR6.out rfl
    have k2 := hp_cell (j := 2) HR6.out rfl
    go_wp2_with fail
    refine (enc_ok 1 1 1 (some ⟨g, 0, none⟩) cap' cW (fun i => (cW_byl i).1) hn' hc' may11 (fits_of may11 (fun i _ => (cW_byl i).2)) rfl ⟨by omega, by omega⟩ ⟨by omega, by omega⟩ (by omega) (fun i _ => (cW_byl i).2) _ (HO6.out.pix)).mono ?_
    rintro e w7 ⟨gb, capb, rfl, hOw, hB7⟩
    have hBM := bmp_file (!opqB 1 cW) gb capb cW (fun i => (cW_byl i).1) 1 1 1 rfl ⟨by omega, by omega⟩ ⟨by omega, by omega⟩ (by omega) size11 (fun i _ => (cW_byl i).2) rfl _ w7 hOw
    obtain ⟨m, hm⟩ : ∃ m, m = (fileL (!opqB 1 cW) cW 1 1).length := ⟨_, rfl⟩
    rw [← hm] at hBM ⊢
    have HBM := Lib.hid hBM
    have hR7 := hp_below HR6.out hB7 (lt_heap HR6.out)
    have HO7 := Lib.hid (HO6.out.below hB7)
    have HB7 := Lib.hid (HB6.out.trans (hB7.mono HB6.out.size))
    have HR7 := Lib.hid hR7
    clear hBM hm hOw hB7 hR7 k0 k1 k2
    go_wp2_with fail
    refine HBM.out.mono ?_
    rintro e w8 ⟨A8, cap8, rfl, hn8, hc8, hP8, hB8⟩
    have hR8 := hp_below HR7.out hB8 (lt_heap HR7.out)
    have hO8 := HO7.out.below hB8
    have hal8 : Below w8.heap.size w8 (w8.alloc (.cells #[.int .i64 1, .int .i64 1, .slice A8 4 cap8] 26)) := (Below.refl _ w8).alloc (Nat.le_refl _) _
    have hQ9 := hp_new0 w8 (.cells #[.int .i64 1, .int .i64 1, .slice A8 4 cap8] 26)
    have hR9 := hp_below hR8 hal8 (lt_heap hR8)
    have hB9 := HB7.out.trans ((hB8.trans (hal8.mono hB8.size)).mono HB7.out.size)
    have HP9 := Lib.hid (hP8.below hal8)
    have HO9 := Lib.hid (hO8.below hal8).pix
    have HB9 := Lib.hid hB9
    have HQ9 := Lib.hid hQ9
    have HR9 := Lib.hid hR9
    have k0 := hp_cell (j := 0) hR9 rfl
    have k1 := hp_cell (j := 1) hR9 rfl
    have k2 := hp_cell (j := 2) hR9 rfl
    have q0 := hp_cell (j := 0) hQ9 rfl
    have q1 := hp_cell (j := 1) hQ9 rfl
    have q2 := hp_cell (j := 2) hQ9 rfl
    clear hR8 hO8 hal8 hQ9 hR9 hB9 hP8 hB8
    go_wp2_with fail
    refine (same_ref (1 : Nat) (1 : Nat) (some ⟨g, 0, none⟩) (4 * 1) cap' cW (1 : Nat) (1 : Nat) A8 (4 * 1) cap8 cW (by unfold In64; omega) (by unfold In64; omega) (by unfold In64; omega) (by unfold In64; omega) hn' hc' hn8 hc8 _ HO9.out HP9.out).mono ?_
    rintro e w10 ⟨rfl, hB10⟩
    rw [same_self19 cW may11]
    have HF := Lib.hid (HB9.out.trans (hB10.mono HB9.out.size))
    clear hB10
    go_wp2
    go_ret
    exact ⟨rfl, HF.out⟩
end Go.Proofs.Ythgafdbdmemkhaa
