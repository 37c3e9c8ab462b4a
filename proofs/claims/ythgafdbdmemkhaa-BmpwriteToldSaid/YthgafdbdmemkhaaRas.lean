/- Contracts of raster's plain functions: Size, May, of the program and of the reference. -/
import Derived.Test.YthgafdbdmemkhaaRows
import Derived.Test.YthgafdbdmemkhaaMem
import Derived.WalkKit
import Derived.ProofKit
import Derived.OpenShut
import Derived.WalkLawsBesides
import Derived.WalkSpells
import Derived.Outline
import Derived.Lib.Hide
import Derived.Deep.QuietTactic
import Derived.BigQuiet
namespace Go.Proofs.Ythgafdbdmemkhaa
set_option linter.unusedVariables false
open Go.ChangeShapes Go.WideShapes Go.ChangeAt Go.RowKit

theorem ret_i {k : IntKind} {a b : Int} (h : a = b) : Ending.returned (.int k a) = .returned (.int k b) := by rw [h]
theorem ret_b {b b' : Bool} (h' : b = b') : Ending.returned (.bool b) = .returned (.bool b') := by rw [h']
theorem ret2_ib {k : IntKind} {a a' : Int} {b b' : Bool} (h : a = a') (h' : b = b') : Ending.returned (.tuple #[.int k a, .bool b]) = .returned (.tuple #[.int k a', .bool b']) := by rw [h, h']
theorem quiet_left {P : Program} {f : FuncId} {args : Array Value} {w : World} {n : Nat} {v : Value}
    (h : Calls P f args (w.drewN n) fun e w' => e = .returned v ∧ w.drewN n = w') : Calls P f args (w.drewN n) fun e w'' => e = .returned v ∧ ∃ m, w'' = w.drewN m :=
  h.mono fun _ _ ⟨he, hm⟩ => ⟨he, n, hm.symm⟩
def In64 (a : Int) : Prop := -9223372036854775808 ≤ a ∧ a ≤ 9223372036854775807
theorem mul_bd (n b N B : Int) (h0 : 0 ≤ n) (h1 : n ≤ N) (h2 : 0 ≤ b) (h3 : b ≤ B) : 0 ≤ n * b ∧ n * b ≤ N * B :=
  ⟨Int.mul_nonneg h0 h2, Int.mul_le_mul h1 h3 h2 (by omega)⟩

/-- Whether sides may be: 0, or the error's number. -/
def sizeE (w h : Int) : Int := if w < 1 ∨ h < 1 then 1 else if 256 < w ∨ 256 < h ∨ 16384 / h < w then 6 else 0
theorem size_ok {a b : Int} (h : sizeE a b = 0) : 1 ≤ a ∧ a ≤ 256 ∧ 1 ≤ b ∧ b ≤ 256 ∧ a * b ≤ 16384 := by
  unfold sizeE at h
  split at h
  · omega
  · split at h
    · omega
    · rename_i h1 h2
      have h3 : a ≤ 16384 / b := by omega
      rw [Int.le_ediv_iff_mul_le (by omega)] at h3
      omega
theorem sizeE_bd (a b : Int) : 0 ≤ sizeE a b ∧ sizeE a b ≤ 6 := by
  unfold sizeE
  split
  · omega
  · split <;> omega
/-- Whether sides and so many samples are a picture. -/
def mayB (w h : Int) (n : Nat) : Bool := decide (sizeE w h = 0 ∧ (n : Int) = 4 * w * h)
theorem may_ok {a b : Int} {n : Nat} (h : mayB a b n = true) : sizeE a b = 0 ∧ (n : Int) = 4 * a * b := by simpa [mayB] using h

theorem size_prog (a b : Int) (ha : In64 a) (hb : In64 b) (w : World) :
    Calls Try.prog 28 #[.int .i64 a, .int .i64 b] w fun e w' => e = .returned (.int .i64 (sizeE a b)) ∧ w = w' := by
  obtain ⟨ha, ha'⟩ := ha
  obtain ⟨hb, hb'⟩ := hb
  by_cases h1 : a < 1
  · go_enter Try.func28, Try.ntmps28
    go_wp2
    go_ret
    exact ⟨ret_i (by simp [sizeE, h1]), rfl⟩
  · by_cases h2 : b < 1
    · go_enter Try.func28, Try.ntmps28
      go_wp2
      go_ret
      exact ⟨ret_i (by simp [sizeE, h2]), rfl⟩
    · go_enter Try.func28, Try.ntmps28
      go_wp2
      all_goals go_ret
      all_goals refine ⟨ret_i ?_, rfl⟩
      all_goals (unfold sizeE; rw [if_neg (by omega)]; first | rw [if_pos (by omega)] | rw [if_neg (by omega)])
theorem size_ref (a b : Int) (ha : In64 a) (hb : In64 b) (w : World) :
    Calls Try.prog 27 #[.int .i64 a, .int .i64 b] w fun e w' => e = .returned (.int .i64 (sizeE a b)) ∧ w = w' := by
  obtain ⟨ha, ha'⟩ := ha
  obtain ⟨hb, hb'⟩ := hb
  by_cases h1 : a < 1
  · go_enter Try.func27, Try.ntmps27
    go_wp2
    go_ret
    exact ⟨ret_i (by simp [sizeE, h1]), rfl⟩
  · by_cases h2 : b < 1
    · go_enter Try.func27, Try.ntmps27
      go_wp2
      go_ret
      exact ⟨ret_i (by simp [sizeE, h2]), rfl⟩
    · go_enter Try.func27, Try.ntmps27
      go_wp2
      all_goals go_ret
      all_goals refine ⟨ret_i ?_, rfl⟩
      all_goals (unfold sizeE; rw [if_neg (by omega)]; first | rw [if_pos (by omega)] | rw [if_neg (by omega)])

theorem may_prog (a b : Int) (A : Option Addr) (n cap : Nat) (ha : In64 a) (hb : In64 b) (hn : n ≤ cap) (hc : cap ≤ maxLen) (w : World) :
    Calls Try.prog 13 #[.agg #[.int .i64 a, .int .i64 b, .slice A n cap]] w fun e w' => e = .returned (.bool (mayB a b n)) ∧ Below w.heap.size w w' := by
  unfold maxLen at hc
  by_cases hz : sizeE a b = 0
  · obtain ⟨h1, h2, h3, h4, h5⟩ := size_ok hz
    have m1 := mul_bd (4 * a) b 1024 256 (by omega) (by omega) (by omega) h4
    obtain ⟨m10, m11⟩ := m1
    have hz' : (sizeE a b == 0) = true := by simp [hz]
    have hv : mayB a b n = ((n : Int) == 4 * a * b) := by
      simp only [mayB, hz, true_and]
      rw [Bool.eq_iff_iff]
      simp
    have HV := Lib.hid hv
    clear hz hv
    go_enter Try.func13, Try.ntmps13
    go_wp2_with (go_at_call 28; refine (size_prog _ _ ha hb _).mono ?_; rintro e w' ⟨rfl, rfl⟩)
    go_ret
    exact ⟨ret_b HV.out.symm, (Below.refl _ _).alloc (Nat.le_refl _) _⟩
  · have hv : mayB a b n = false := by simp [mayB, hz]
    have hz' : (sizeE a b == 0) = false := by simp [hz]
    have HV := Lib.hid hv
    clear hz hv
    go_enter Try.func13, Try.ntmps13
    go_wp2_with (go_at_call 28; refine (size_prog _ _ ha hb _).mono ?_; rintro e w' ⟨rfl, rfl⟩)
    go_ret
    exact ⟨ret_b HV.out.symm, (Below.refl _ _).alloc (Nat.le_refl _) _⟩
theorem may_ref (a b : Int) (A : Option Addr) (n cap : Nat) (ha : In64 a) (hb : In64 b) (hn : n ≤ cap) (hc : cap ≤ maxLen) (w : World) :
    Calls Try.prog 25 #[.agg #[.int .i64 a, .int .i64 b, .slice A n cap]] w fun e w' => e = .returned (.bool (mayB a b n)) ∧ Below w.heap.size w w' := by
  unfold maxLen at hc
  by_cases hz : sizeE a b = 0
  · obtain ⟨h1, h2, h3, h4, h5⟩ := size_ok hz
    have m1 := mul_bd (4 * a) b 1024 256 (by omega) (by omega) (by omega) h4
    obtain ⟨m10, m11⟩ := m1
    have hz' : (sizeE a b == 0) = true := by simp [hz]
    have hv : mayB a b n = ((n : Int) == 4 * a * b) := by
      simp only [mayB, hz, true_and]
      rw [Bool.eq_iff_iff]
      simp
    have HV := Lib.hid hv
    clear hz hv
    go_enter Try.func25, Try.ntmps25
    go_wp2_with (go_at_call 27; refine (size_ref _ _ ha hb _).mono ?_; rintro e w' ⟨rfl, rfl⟩)
    go_ret
    exact ⟨ret_b HV.out.symm, (Below.refl _ _).alloc (Nat.le_refl _) _⟩
  · have hv : mayB a b n = false := by simp [mayB, hz]
    have hz' : (sizeE a b == 0) = false := by simp [hz]
    have HV := Lib.hid hv
    clear hz hv
    go_enter Try.func25, Try.ntmps25
    go_wp2_with (go_at_call 27; refine (size_ref _ _ ha hb _).mono ?_; rintro e w' ⟨rfl, rfl⟩)
    go_ret
    exact ⟨ret_b HV.out.symm, (Below.refl _ _).alloc (Nat.le_refl _) _⟩
end Go.Proofs.Ythgafdbdmemkhaa
