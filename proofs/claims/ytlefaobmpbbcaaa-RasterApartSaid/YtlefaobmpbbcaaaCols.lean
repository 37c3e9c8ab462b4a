/- Colours of the program and of the reference, at every picture. -/
import Derived.Test.YtlefaobmpbbcaaaList
namespace Go.Proofs.Ytlefaobmpbbcaaa
set_option linter.unusedVariables false
open Go.ChangeShapes Go.WideShapes Go.ChangeAt Go.RowKit

theorem colN_U {c : Nat → Nat} (hc : ∀ i, c i < 65536) (N : Nat) (most : Int) : colN c N most = if most < ((U c N).length : Int) then 0 else ((U c N).length : Int) := by
  unfold colN; rw [cnt_uni hc]; rfl
theorem colB_U {c : Nat → Nat} (hc : ∀ i, c i < 65536) (N : Nat) (most : Int) : colB c N most = decide (((U c N).length : Int) ≤ most) := by
  unfold colB; rw [cnt_uni hc]; rfl

set_option maxRecDepth 100000 in
set_option maxHeartbeats 1000000 in
theorem col_no (a b : Int) (A : Option Addr) (n cap : Nat) (most : Int) (ha : In64 a) (hb : In64 b) (hm : mayB a b n = false) (hn : n ≤ cap) (hc : cap ≤ maxLen) (w : World) :
    Calls Try.prog 14 #[.agg #[.int .i64 a, .int .i64 b, .slice A n cap], .int .i64 most] w fun e w' => e = .returned (.tuple #[.int .i64 0, .bool false]) ∧ Below w.heap.size w w' := by
  have HM := Lib.hid hm
  clear hm
  obtain ⟨q0, q1, q2, q3, q4⟩ := four_boxes w #[.int .i64 a, .int .i64 b, .slice A n cap] (.int .i64 most) (.int .i64 0) (.bool false) 25 3 3 4
  go_enter Try.func14, Try.ntmps14
  go_wp2_with fail
  refine (may_prog a b A n cap ha hb hn hc _).mono ?_
  rintro e w2 ⟨rfl, hB2⟩
  rw [HM.out]
  have hS := hB2.size
  rw [q0] at hB2 hS
  have b2 := hp_below q3 hB2 (by omega)
  have b3 := hp_below q4 hB2 (by omega)
  have p2c := hp_cell (j := 0) b2 rfl
  have p3c := hp_cell (j := 0) b3 rfl
  have p2f : w2.frozen? ⟨w.heap.size + 1 + 1, 0, none⟩ = false := by simp [World.frozen?, b2]
  have p3f : w2.frozen? ⟨w.heap.size + 1 + 1 + 1, 0, none⟩ = false := by simp [World.frozen?, b3]
  have HBw := Lib.hid ((((((Below.refl _ w).alloc (Nat.le_refl _) _).alloc (by simp) _).alloc (by simp; omega) _).alloc (by simp; omega) _).trans (hB2.mono (by omega)) : Below w.heap.size w w2)
  clear q0 q1 q2 q3 q4 hB2 b2 b3
  go_wp2
  refine bodyPost_ret (v := .tuple #[.int .i64 0, .bool false]) (by rw [results_cell2 rfl]; go_simp) rfl ?_
  exact ⟨rfl, (HBw.out.setCell (p := ⟨w.heap.size + 1 + 1, 0, none⟩) (by simp; omega) _).setCell (p := ⟨w.heap.size + 1 + 1 + 1, 0, none⟩) (by simp; omega) _⟩

theorem colr_no (a b : Int) (A : Option Addr) (n cap : Nat) (most : Int) (ha : In64 a) (hb : In64 b) (hm : mayB a b n = false) (hn : n ≤ cap) (hc : cap ≤ maxLen) (w : World) :
    Calls Try.prog 15 #[.agg #[.int .i64 a, .int .i64 b, .slice A n cap], .int .i64 most] w fun e w' => e = .returned (.tuple #[.int .i64 0, .bool false]) ∧ Below w.heap.size w w' := by
  have HM := Lib.hid hm
  clear hm
  go_enter Try.func15, Try.ntmps15
  go_wp2_with fail
  refine (may_ref a b A n cap ha hb hn hc _).mono ?_
  rintro e w2 ⟨rfl, hB2⟩
  rw [HM.out]
  have HB := Lib.hid (((Below.refl _ w).alloc (Nat.le_refl _) _).trans (hB2.mono (by simp)))
  clear hB2
  go_wp2
  go_ret2
  exact ⟨rfl, HB.out⟩

theorem colr_may (a b : Int) (bk off cap : Nat) (c : Nat → Nat) (hc : ∀ i, c i < 65536) (N : Nat) (most : Int) (ha : In64 a) (hb : In64 b) (hm : mayB a b (4 * N) = true) (hN1 : 1 ≤ N) (hN2 : N ≤ 16384) (hcap : 4 * N ≤ cap) (hmax : cap ≤ maxLen)
    (w : World) (hbk : bk < w.heap.size) (hcells : ∀ j, j < 4 * N → w.cell? ⟨bk, off + j, none⟩ = some (.int .u16 (c j : Nat))) :
    Calls Try.prog 15 #[.agg #[.int .i64 a, .int .i64 b, .slice (some ⟨bk, off, none⟩) (4 * N) cap], .int .i64 most] w fun e w' => e = .returned (.tuple #[.int .i64 (colN c N most), .bool (colB c N most)]) ∧ Below w.heap.size w w' := by
  have HM := Lib.hid hm
  clear hm
  have HN := Lib.hid (colN_U hc N most)
  have HBo := Lib.hid (colB_U hc N most)
  go_enter Try.func15, Try.ntmps15
  go_wp2_with fail
  refine (may_ref a b _ (4 * N) cap ha hb hcap hmax _).mono ?_
  rintro e w2 ⟨rfl, hB2⟩
  rw [HM.out]
  have hbx := hp_below (hp_new0 w _) hB2 (by simp)
  have k0 := hp_cell (j := 0) hbx rfl
  have k1 := hp_cell (j := 1) hbx rfl
  have k2 := hp_cell (j := 2) hbx rfl
  have hB := ((Below.refl _ w).alloc (Nat.le_refl _) _).trans (hB2.mono (by simp))
  have hbk2 := Nat.lt_of_lt_of_le hbk hB.size
  have hc2 : ∀ j, j < 4 * N → w2.cell? ⟨bk, off + j, none⟩ = some (.int .u16 (c j : Nat)) := fun j hj => (hB.cell (p := ⟨bk, off + j, none⟩) hbk).trans (hcells j hj)
  have HB := Lib.hid hB
  have HC := Lib.hid hc2
  clear hB2 hbx hB hc2 hcells
  go_wp2_with fail
  refine (list_ref a b bk off cap c hc N most ha hb HM.out hN1 hN2 hcap hmax _ hbk2 HC.out).mono ?_
  rintro e w3 ⟨⟨hle, v, u, rfl, rv, ru⟩ | ⟨hgt, rfl⟩, hB3⟩
  · obtain ⟨_, A1, c1, rfl, _, _, _⟩ := Sl.of_own rv
    obtain ⟨_, A2, c2, rfl, _, _, _⟩ := Sl.of_own ru
    have HB3 := Lib.hid (HB.out.trans (hB3.mono HB.out.size))
    clear rv ru hB3
    have hn : colN c N most = ((U c N).length : Int) := by rw [HN.out, if_neg (by omega)]
    have hb' : colB c N most = true := by rw [HBo.out]; simpa using hle
    have Hn := Lib.hid hn
    have Hb := Lib.hid hb'
    clear hn hb' hle
    go_wp2
    go_ret2
    exact ⟨ret2_ib Hn.out.symm Hb.out.symm, HB3.out⟩
  · have HB3 := Lib.hid (HB.out.trans (hB3.mono HB.out.size))
    have hn : colN c N most = 0 := by rw [HN.out, if_pos (by omega)]
    have hb' : colB c N most = false := by rw [HBo.out]; simpa using hgt
    have Hn := Lib.hid hn
    have Hb := Lib.hid hb'
    clear hn hb' hgt hB3
    go_wp2
    go_ret2
    exact ⟨ret2_ib Hn.out.symm Hb.out.symm, HB3.out⟩

/-- Both at once, at whatever picture. -/
def colV (a b : Int) (n : Nat) (c : Nat → Nat) (most : Int) : Value := if mayB a b n = true then .tuple #[.int .i64 (colN c (n / 4) most), .bool (colB c (n / 4) most)] else .tuple #[.int .i64 0, .bool false]
theorem may_four {a b : Int} {n : Nat} (h : mayB a b n = true) : ∃ N, n = 4 * N ∧ 1 ≤ N ∧ N ≤ 16384 ∧ a * b = (N : Int) := by
  obtain ⟨hz, hn⟩ := may_ok h
  obtain ⟨q1, q2, q3, q4, q5⟩ := size_ok hz
  have h1 : 0 < a * b := Int.mul_pos (by omega) (by omega)
  rw [Int.mul_assoc] at hn
  exact ⟨(a * b).toNat, by omega, by omega, by omega, by omega⟩
theorem col_any (a b : Int) (A : Option Addr) (n cap : Nat) (c : Nat → Nat) (hc : ∀ i, c i < 65536) (most : Int) (ha : In64 a) (hb : In64 b) (hn : n ≤ cap) (hmax : cap ≤ maxLen) (w : World) (hP : Pix w A n c) :
    Calls Try.prog 14 #[.agg #[.int .i64 a, .int .i64 b, .slice A n cap], .int .i64 most] w fun e w' => e = .returned (colV a b n c most) ∧ Below w.heap.size w w' := by
  unfold colV
  by_cases h : mayB a b n = true
  · obtain ⟨N, rfl, h1, h2, h3⟩ := may_four h
    obtain ⟨bk, off, rfl, hbk, hcl⟩ := hP (by omega)
    rw [if_pos h, Nat.mul_div_cancel_left _ (by omega)]
    exact col_may a b bk off cap c hc N most ha hb h h1 h2 hn hmax w hbk hcl
  · rw [if_neg h]
    exact col_no a b A n cap most ha hb (by simpa using h) hn hmax w
theorem colr_any (a b : Int) (A : Option Addr) (n cap : Nat) (c : Nat → Nat) (hc : ∀ i, c i < 65536) (most : Int) (ha : In64 a) (hb : In64 b) (hn : n ≤ cap) (hmax : cap ≤ maxLen) (w : World) (hP : Pix w A n c) :
    Calls Try.prog 15 #[.agg #[.int .i64 a, .int .i64 b, .slice A n cap], .int .i64 most] w fun e w' => e = .returned (colV a b n c most) ∧ Below w.heap.size w w' := by
  unfold colV
  by_cases h : mayB a b n = true
  · obtain ⟨N, rfl, h1, h2, h3⟩ := may_four h
    obtain ⟨bk, off, rfl, hbk, hcl⟩ := hP (by omega)
    rw [if_pos h, Nat.mul_div_cancel_left _ (by omega)]
    exact colr_may a b bk off cap c hc N most ha hb h h1 h2 hn hmax w hbk hcl
  · rw [if_neg h]
    exact colr_no a b A n cap most ha hb (by simpa using h) hn hmax w
theorem colV_form (a b : Int) (n : Nat) (c : Nat → Nat) (most : Int) : ∃ x y, colV a b n c most = .tuple #[.int .i64 x, .bool y] := by
  unfold colV; split <;> exact ⟨_, _, rfl⟩
end Go.Proofs.Ytlefaobmpbbcaaa
