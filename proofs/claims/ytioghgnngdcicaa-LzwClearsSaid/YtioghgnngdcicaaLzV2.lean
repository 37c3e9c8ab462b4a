/- lzw.Write: what may not be written. -/
import Derived.Test.YtioghgnngdcicaaLzZ
namespace Go.Proofs.Ytioghgnngdcicaa
set_option linter.unusedVariables false
open Go.ChangeShapes Go.WideShapes Go.ChangeAt Go.RowKit

theorem cl_bound {sz : Nat} (h1 : 2 ≤ sz) (h2 : sz ≤ 8) : 4 ≤ 2 ^ sz ∧ 2 ^ sz ≤ 256 := ⟨Nat.pow_le_pow_right (n := 2) (i := 2) (by omega) h1, Nat.pow_le_pow_right (n := 2) (j := 8) (by omega) h2⟩
set_option maxRecDepth 100000 in
set_option maxHeartbeats 2000000 in
theorem write_bad (A : Option Addr) (n cap : Nat) (b : Nat → Nat) (hbt : ∀ i, b i < 256) (sz : Nat) (h1 : 2 ≤ sz) (h2 : sz ≤ 8) (hn : n ≤ 2000000) (w : World) (hP : Byt w A n b) (p : Nat) (hp : p < n) (hpre : ∀ i, i < p → b i < 2 ^ sz) (hbad : 2 ^ sz ≤ b p) :
    Calls Try.prog 19 #[.slice A n cap, .int .i64 (sz : Nat)] w fun e w' => e = .returned (.tuple #[.slice none 0 0, .int .i64 1]) ∧ Hid (w = w') := by
  have hc256 := cl_bound h1 h2
  obtain ⟨cl, hcl⟩ : ∃ cl, cl = 2 ^ sz := ⟨_, rfl⟩
  rw [← hcl] at hpre hbad hc256
  have HA := Lib.hid hpre
  have HBad := Lib.hid hbad
  have d1 : decide (2 ≤ (sz : Int) ∧ (sz : Int) ≤ 8) = true := by simp; omega
  have hwp : wrap64 ((2 : Int) ^ sz) = (cl : Int) := by rw [wrap_pow sz (by omega), hcl]
  have HWP := Lib.hid hwp
  clear hcl hwp hpre hbad
  go_enter Try.func19, Try.ntmps19
  go_wp2_with fail
  refine (may_w (sz : Nat) _).mono ?_
  rintro e w1 ⟨rfl, rfl⟩
  rw [d1]
  clear d1
  go_wp2_with fail
  go_loop [19] (fun s19 => ∃ j : Nat, s19 = .int .i64 (j : Nat) ∧ j ≤ p) (fun s19 => n - (intOf s19).toNat)
  case atStart => exact ⟨0, rfl, by omega⟩
  case round =>
    obtain ⟨j, rfl, hj⟩ := hrel
    obtain ⟨bk, off, rfl, hbk, hcell⟩ := hP (by omega)
    have hc0 := hcell j (by omega)
    have hb1 := hbt j
    have hlt : j < n := by omega
    have hwp := HWP.out
    by_cases hjp : j < p
    · have hb2 := HA.out j hjp
      generalize b j = v at *
      have d2 : decide ((cl : Int) ≤ (v : Int)) = false := by simp; omega
      clear hcell
      go_wp2_with fail
      go_round
      case rel => exact ⟨j + 1, by go_num, by omega⟩
      case measure => simp [intOf]; omega
    · obtain rfl : p = j := by omega
      have hb2 := HBad.out
      generalize b p = v at *
      have d2 : decide ((cl : Int) ≤ (v : Int)) = true := by simp; omega
      clear hcell
      go_wp2_with fail
      go_ret2
      exact ⟨rfl, Lib.hid rfl⟩
set_option maxRecDepth 100000 in
set_option maxHeartbeats 2000000 in
theorem write_long (A : Option Addr) (n cap : Nat) (b : Nat → Nat) (hbt : ∀ i, b i < 256) (sz : Nat) (h1 : 2 ≤ sz) (h2 : sz ≤ 8) (hn : n ≤ 2000000) (hlong : 1048576 < n) (w : World) (hP : Byt w A n b) (hpre : ∀ i, i < n → b i < 2 ^ sz) :
    Calls Try.prog 19 #[.slice A n cap, .int .i64 (sz : Nat)] w fun e w' => e = .returned (.tuple #[.slice none 0 0, .int .i64 3]) ∧ Hid (w = w') := by
  have hc256 := cl_bound h1 h2
  obtain ⟨cl, hcl⟩ : ∃ cl, cl = 2 ^ sz := ⟨_, rfl⟩
  rw [← hcl] at hpre hc256
  have HA := Lib.hid hpre
  have d1 : decide (2 ≤ (sz : Int) ∧ (sz : Int) ≤ 8) = true := by simp; omega
  have hwp : wrap64 ((2 : Int) ^ sz) = (cl : Int) := by rw [wrap_pow sz (by omega), hcl]
  have HWP := Lib.hid hwp
  clear hcl hwp hpre
  go_enter Try.func19, Try.ntmps19
  go_wp2_with fail
  refine (may_w (sz : Nat) _).mono ?_
  rintro e w1 ⟨rfl, rfl⟩
  rw [d1]
  clear d1
  go_wp2_with fail
  go_loop [19] (fun s19 => ∃ j : Nat, s19 = .int .i64 (j : Nat) ∧ j ≤ n) (fun s19 => n - (intOf s19).toNat)
  case atStart => exact ⟨0, rfl, by omega⟩
  case round =>
    obtain ⟨j, rfl, hj⟩ := hrel
    obtain ⟨bk, off, rfl, hbk, hcell⟩ := hP (by omega)
    have hwp := HWP.out
    by_cases hlt : j < n
    · have hc0 := hcell j (by omega)
      have hb1 := hbt j
      have hb2 := HA.out j hlt
      generalize b j = v at *
      have d2 : decide ((cl : Int) ≤ (v : Int)) = false := by simp; omega
      clear hcell
      go_wp2_with fail
      go_round
      case rel => exact ⟨j + 1, by go_num, by omega⟩
      case measure => simp [intOf]; omega
    · obtain rfl : n = j := by omega
      have d3 : decide (1048576 < n) = true := by simp; omega
      clear hcell
      go_wp2_with fail
      go_ret2
      exact ⟨rfl, Lib.hid rfl⟩
end Go.Proofs.Ytioghgnngdcicaa
