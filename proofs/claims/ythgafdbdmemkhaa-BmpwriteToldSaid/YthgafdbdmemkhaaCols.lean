/- Colours of the program and of the reference, at every picture. -/
import Derived.Test.YthgafdbdmemkhaaList
namespace Go.Proofs.Ythgafdbdmemkhaa
set_option linter.unusedVariables false
open Go.ChangeShapes Go.WideShapes Go.ChangeAt Go.RowKit

theorem colN_U {c : Nat → Nat} (hc : ∀ i, c i < 65536) (N : Nat) (most : Int) : colN c N most = if most < ((U c N).length : Int) then 0 else ((U c N).length : Int) := by
  unfold colN; rw [cnt_uni hc]; rfl
theorem colB_U {c : Nat → Nat} (hc : ∀ i, c i < 65536) (N : Nat) (most : Int) : colB c N most = decide (((U c N).length : Int) ≤ most) := by
  unfold colB; rw [cnt_uni hc]; rfl

set_option maxRecDepth 100000 in
set_option maxHeartbeats 1000000 in
theorem col_no (a b : Int) (A : Option Addr) (n cap : Nat) (most : Int) (ha : In64 a) (hb : In64 b) (hm : mayB a b n = false) (hn : n ≤ cap) (hc : cap ≤ maxLen) (w : World) :
    Calls Try.prog 30 #[.agg #[.int .i64 a, .int .i64 b, .slice A n cap], .int .i64 most] w fun e w' => e = .returned (.tuple #[.int .i64 0, .bool false]) ∧ Below w.heap.size w w' := by
  have HM := Lib.hid hm
  clear hm
  obtain ⟨q0, q1, q2, q3, q4⟩ := four_boxes w #[.int .i64 a, .int .i64 b, .slice A n cap] (.int .i64 most) (.int .i64 0) (.bool false) 26 3 3 4
  go_enter Try.func30, Try.ntmps30
  go_wp2_with fail
  refine (may_prog a b A n cap ha hb hn hc _).mono ?_
  rintro e w2 ⟨rfl, hB2⟩
  rw [HM.out]
  have hS := hB2.size
  rw [q0] at hB2 hS
  have b2 := hp_below q3 hB2 (by omega)
  have b3 := hp_below q4 hB2 (by omega)
  have p2c := hp_cell (j := 0) b2 rfl
  have p3c := hp_cell (j := 0) b3 rfl
  have p2f : w2.frozen? ⟨w.heap.size + 1 + 1, 0, none⟩ = false := by simp [World.frozen?, b2]
  have p3f : w2.frozen? ⟨w.heap.size + 1 + 1 + 1, 0, none⟩ = false := by simp [World.frozen?, b3]
  have HBw := Lib.hid ((((((Below.refl _ w).alloc (Nat.le_refl _) _).alloc (by simp) _).alloc (by simp; omega) _).alloc (by simp; omega) _).trans (hB2.mono (by omega)) : Below w.heap.size w w2)
  clear q0 q1 q2 q3 q4 hB2 b2 b3
  go_wp2
  refine bodyPost_ret (v := .tuple #[.int .i64 0, .bool false]) (by rw [results_cell2 rfl]; go_simp) rfl ?_
  exact ⟨rfl, (HBw.out.setCell (p := ⟨w.heap.size + 1 + 1, 0, none⟩) (by simp; omega) _).setCell (p := ⟨w.heap.size + 1 + 1 + 1, 0, none⟩) (by simp; omega) _⟩

/-- Both at once, at whatever picture. -/
def colV (a b : Int) (n : Nat) (c : Nat → Nat) (most : Int) : Value := if mayB a b n = true then .tuple #[.int .i64 (colN c (n / 4) most), .bool (colB c (n / 4) most)] else .tuple #[.int .i64 0, .bool false]
theorem may_four {a b : Int} {n : Nat} (h : mayB a b n = true) : ∃ N, n = 4 * N ∧ 1 ≤ N ∧ N ≤ 16384 ∧ a * b = (N : Int) := by
  obtain ⟨hz, hn⟩ := may_ok h
  obtain ⟨q1, q2, q3, q4, q5⟩ := size_ok hz
  have h1 : 0 < a * b := Int.mul_pos (by omega) (by omega)
  rw [Int.mul_assoc] at hn
  exact ⟨(a * b).toNat, by omega, by omega, by omega, by omega⟩
theorem col_any (a b : Int) (A : Option Addr) (n cap : Nat) (c : Nat → Nat) (hc : ∀ i, c i < 65536) (most : Int) (ha : In64 a) (hb : In64 b) (hn : n ≤ cap) (hmax : cap ≤ maxLen) (w : World) (hP : Pix w A n c) :
    Calls Try.prog 30 #[.agg #[.int .i64 a, .int .i64 b, .slice A n cap], .int .i64 most] w fun e w' => e = .returned (colV a b n c most) ∧ Below w.heap.size w w' := by
  unfold colV
  by_cases h : mayB a b n = true
  · obtain ⟨N, rfl, h1, h2, h3⟩ := may_four h
    obtain ⟨bk, off, rfl, hbk, hcl⟩ := hP (by omega)
    rw [if_pos h, Nat.mul_div_cancel_left _ (by omega)]
    exact col_may a b bk off cap c hc N most ha hb h h1 h2 hn hmax w hbk hcl
  · rw [if_neg h]
    exact col_no a b A n cap most ha hb (by simpa using h) hn hmax w
theorem colV_form (a b : Int) (n : Nat) (c : Nat → Nat) (most : Int) : ∃ x y, colV a b n c most = .tuple #[.int .i64 x, .bool y] := by
  unfold colV; split <;> exact ⟨_, _, rfl⟩
end Go.Proofs.Ythgafdbdmemkhaa
