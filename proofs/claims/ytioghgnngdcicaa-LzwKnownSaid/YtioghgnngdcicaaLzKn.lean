/- LzwKnown: the walk. -/
import Derived.Test.YtioghgnngdcicaaLzL2
import Derived.Test.YtioghgnngdcicaaLzSl
namespace Go.Proofs.Ytioghgnngdcicaa
set_option linter.unusedVariables false
open Go.ChangeShapes Go.WideShapes Go.ChangeAt Go.RowKit

theorem kn_0 : lzwV (gz [140, 10]) 2 1 9 = ([], 1) := by decide +kernel
theorem kn_1 : lzwV (gz [140, 10]) 2 9 9 = ([], 1) := by decide +kernel
theorem kn_2 : lzwV (gz [140, 10]) 2 2 (-1) = ([], 1) := by decide +kernel
theorem kn_3 : lzwV (gz [140, 10]) 2 2 1 = ([], 6) := by decide +kernel
theorem kn_4 : lzwV (gz [140]) 1 2 9 = ([], 2) := by decide +kernel
theorem kn_5 : lzwV (gz [5]) 1 2 0 = ([], 0) := by decide +kernel
theorem kn_6 : lzwV (gz [6]) 1 2 9 = ([], 4) := by decide +kernel
theorem kn_bad : ¬ (gz [4] 0 < 2 ^ 2) := by decide
set_option maxRecDepth 1000000 in
set_option maxHeartbeats 4000000 in
theorem known_walk (w : World) : Calls Try.prog 8 #[] w fun e w' => e = .returned (.bool true) ∧ Below w.heap.size w w' := by
  obtain ⟨i0, hi0, hz0, hz1, hz2⟩ := info_parts info8
  go_enter Try.func8, Try.ntmps8
  go_wp2_with fail
  refine (awake7 _).mono ?_
  rintro e w0 ⟨rfl, hB0⟩
  have HB0 := Lib.hid hB0
  clear hB0
  go_wp2_with fail
  refine (read_lzw (some ⟨w0.heap.size, 0, none⟩) 2 2 (gz [140, 10]) (gz_256 (by decide)) (Nat.le_refl _) (by simp [maxLen]) (by simp) (by omega) 1 9 (by omega) _ (byt_new w0 [140, 10] _ rfl)).mono ?_
  rw [kn_0]
  rintro e w1 ⟨A1, c1, rfl, hN, hB⟩
  have HB1 := Lib.hid (HB0.out.trans ((((Below.refl _ w0).alloc (Nat.le_refl _) _).trans (hB.mono (by simp))).mono HB0.out.size))
  clear hN hB HB0
  go_wp2_with fail
  refine (read_lzw (some ⟨w1.heap.size, 0, none⟩) 2 2 (gz [140, 10]) (gz_256 (by decide)) (Nat.le_refl _) (by simp [maxLen]) (by simp) (by omega) 9 9 (by omega) _ (byt_new w1 [140, 10] _ rfl)).mono ?_
  rw [kn_1]
  rintro e w2 ⟨A2, c2, rfl, hN, hB⟩
  have HB2 := Lib.hid (HB1.out.trans ((((Below.refl _ w1).alloc (Nat.le_refl _) _).trans (hB.mono (by simp))).mono HB1.out.size))
  clear hN hB HB1
  go_wp2_with fail
  refine (read_lzw (some ⟨w2.heap.size, 0, none⟩) 2 2 (gz [140, 10]) (gz_256 (by decide)) (Nat.le_refl _) (by simp [maxLen]) (by simp) (by omega) 2 (-1) (by omega) _ (byt_new w2 [140, 10] _ rfl)).mono ?_
  rw [kn_2]
  rintro e w3 ⟨A3, c3, rfl, hN, hB⟩
  have HB3 := Lib.hid (HB2.out.trans ((((Below.refl _ w2).alloc (Nat.le_refl _) _).trans (hB.mono (by simp))).mono HB2.out.size))
  clear hN hB HB2
  go_wp2_with fail
  refine (read_lzw (some ⟨w3.heap.size, 0, none⟩) 2 2 (gz [140, 10]) (gz_256 (by decide)) (Nat.le_refl _) (by simp [maxLen]) (by simp) (by omega) 2 1 (by omega) _ (byt_new w3 [140, 10] _ rfl)).mono ?_
  rw [kn_3]
  rintro e w4 ⟨A4, c4, rfl, hN, hB⟩
  have HB4 := Lib.hid (HB3.out.trans ((((Below.refl _ w3).alloc (Nat.le_refl _) _).trans (hB.mono (by simp))).mono HB3.out.size))
  clear hN hB HB3
  go_wp2_with fail
  refine (read_lzw (some ⟨w4.heap.size, 0, none⟩) 1 1 (gz [140]) (gz_256 (by decide)) (Nat.le_refl _) (by simp [maxLen]) (by simp) (by omega) 2 9 (by omega) _ (byt_new w4 [140] _ rfl)).mono ?_
  rw [kn_4]
  rintro e w5 ⟨A5, c5, rfl, hN, hB⟩
  have HB5 := Lib.hid (HB4.out.trans ((((Below.refl _ w4).alloc (Nat.le_refl _) _).trans (hB.mono (by simp))).mono HB4.out.size))
  clear hN hB HB4
  go_wp2_with fail
  refine (read_lzw (some ⟨w5.heap.size, 0, none⟩) 1 1 (gz [5]) (gz_256 (by decide)) (Nat.le_refl _) (by simp [maxLen]) (by simp) (by omega) 2 0 (by omega) _ (byt_new w5 [5] _ rfl)).mono ?_
  rw [kn_5]
  rintro e w6 ⟨A6, c6, rfl, hN, hB⟩
  have HB6 := Lib.hid (HB5.out.trans ((((Below.refl _ w5).alloc (Nat.le_refl _) _).trans (hB.mono (by simp))).mono HB5.out.size))
  clear hN hB HB5
  go_wp2_with fail
  refine (read_lzw (some ⟨w6.heap.size, 0, none⟩) 1 1 (gz [6]) (gz_256 (by decide)) (Nat.le_refl _) (by simp [maxLen]) (by simp) (by omega) 2 9 (by omega) _ (byt_new w6 [6] _ rfl)).mono ?_
  rw [kn_6]
  rintro e w7 ⟨A7, c7, rfl, hN, hB⟩
  have HB7 := Lib.hid (HB6.out.trans ((((Below.refl _ w6).alloc (Nat.le_refl _) _).trans (hB.mono (by simp))).mono HB6.out.size))
  clear hN hB HB6
  go_wp2_with fail
  refine (write_bad (some ⟨w7.heap.size, 0, none⟩) 1 1 (gz [4]) (gz_256 (by decide)) 2 (by omega) (by omega) (by omega) _ (byt_new w7 [4] _ rfl) 0 (by omega) (fun i hi => by omega) (by decide)).mono ?_
  rintro e w8 ⟨rfl, hw8⟩
  have HB8 : Hid (Below w.heap.size w w8) := Lib.hid (by rw [← hw8.out]; exact HB7.out.trans (((Below.refl _ w7).alloc (Nat.le_refl _) _).mono HB7.out.size))
  clear hw8 HB7
  obtain ⟨N, hN⟩ : ∃ N, N = 1048577 := ⟨_, rfl⟩
  obtain ⟨w9, hmk, hown9, hgrow9⟩ := run_makeSlice_full (P := Try.prog) (w := w8) w8.heap.size 22 5 i0 _ 1 Try.underlying22 hi0 hz0 hz1 .i64 .i64 N (by omega) (by rw [hz2]; omega) (by unfold maxLen; omega) (Nat.le_refl _)
  have hz9 : (madeCells (Value.int .u8 0).cells (N * 1)).toList = cells8 N (fun _ => 0) := by
    rw [Nat.mul_one, show (Value.int .u8 0).cells = #[Value.int .u8 0] from rfl, toList_madeCells_one]
    simp [cells8, List.map_const']
  rw [hz9] at hown9
  obtain ⟨A9, c9, he, hN9⟩ := NewB.of_own hown9
  injection he with e1 e2 e3
  subst e1 e3
  have HN9 := Lib.hid hN9
  have HB9 := Lib.hid (HB8.out.trans ((Below.refl w8.heap.size w8 |>.grown hgrow9 (Nat.le_refl _) (fun k e => by cases e)).mono HB8.out.size))
  have HNN := Lib.hid hN
  have hmk2 : (Instr.makeSlice 22 (.int .i64 1048577) (.int .i64 1048577)).run Try.prog w8 = .ok (.slice (some ⟨w8.heap.size, 0, none⟩) N N) w9 := by
    rw [← hmk, hN]
    rfl
  clear hmk hown9 hgrow9 hz9 hN9 HB8 hN e2
  go_wp2_with fail
  clear hmk2
  refine (write_long _ N N (fun _ => 0) (fun _ => by omega) 8 (by omega) (by omega) (by have := HNN.out; omega) (by have := HNN.out; omega) _ HN9.out.byt (fun i hi => by simp)).mono ?_
  rintro e w10 ⟨rfl, hw10⟩
  have hw10' := hw10.out
  subst hw10'
  clear hw10 HN9
  go_wp2_with fail
  refine (newr_no none 0 0 (fun _ => 0) (Nat.le_refl _) (by simp [maxLen]) (fun _ => rfl) (by omega) 1 1 (by decide) _ (fun h => absurd h (by omega))).mono ?_
  rintro e w11 ⟨g, rfl, ⟨k8, k9, k10, k0⟩, hB⟩
  have HB11 := Lib.hid (HB9.out.trans (hB.mono HB9.out.size))
  clear hB HB9 k8 k0
  go_wp2_with (first | (go_at_call 15; refine (done_r g true _ k9).mono ?_; rintro e w12 ⟨rfl, rfl⟩) | (go_at_call 18; refine (err_r g 1 _ k10).mono ?_; rintro e w12 ⟨rfl, rfl⟩))
  go_ret
  exact ⟨rfl, HB11.out⟩
end Go.Proofs.Ytioghgnngdcicaa
