/- raster.at: where a pixel's samples begin. -/
import Derived.Test.YthgafdbdmemkhaaNew
import Derived.Test.YthgafdbdmemkhaaCol
namespace Go.Proofs.Ythgafdbdmemkhaa
set_option linter.unusedVariables false
open Go.ChangeShapes Go.WideShapes Go.ChangeAt Go.RowKit

def inB (a b : Int) (n : Nat) (x y : Int) : Bool := mayB a b n && decide (0 ≤ x ∧ x < a ∧ 0 ≤ y ∧ y < b)
theorem in_ok {a b : Int} {n : Nat} {x y : Int} (h : inB a b n x y = true) : mayB a b n = true ∧ 0 ≤ x ∧ x < a ∧ 0 ≤ y ∧ y < b := by simpa [inB] using h

theorem at_cases (a b : Int) (n : Nat) (x y : Int) :
    (mayB a b n = false) ∨ (mayB a b n = true ∧ x < 0) ∨ (mayB a b n = true ∧ 0 ≤ x ∧ a ≤ x) ∨ (mayB a b n = true ∧ 0 ≤ x ∧ x < a ∧ y < 0) ∨ (mayB a b n = true ∧ 0 ≤ x ∧ x < a ∧ 0 ≤ y ∧ b ≤ y) ∨ (mayB a b n = true ∧ 0 ≤ x ∧ x < a ∧ 0 ≤ y ∧ y < b) := by
  cases mayB a b n
  · exact .inl rfl
  · simp
    omega

set_option maxRecDepth 100000 in
set_option maxHeartbeats 2000000 in
theorem at_prog (a b : Int) (A : Option Addr) (n cap : Nat) (x y : Int) (ha : In64 a) (hb : In64 b) (hn : n ≤ cap) (hc : cap ≤ maxLen) (w : World) :
    Calls Try.prog 33 #[.agg #[.int .i64 a, .int .i64 b, .slice A n cap], .int .i64 x, .int .i64 y] w fun e w' =>
      Below w.heap.size w w' ∧ ∃ i, e = .returned (.tuple #[.int .i64 i, .bool (inB a b n x y)]) ∧ (inB a b n x y = true → i = 4 * (y * a + x)) := by
  rcases at_cases a b n x y with hm | ⟨hm, h1⟩ | ⟨hm, h1, h2⟩ | ⟨hm, h1, h2, h3⟩ | ⟨hm, h1, h2, h3, h4⟩ | ⟨hm, h1, h2, h3, h4⟩
  case inr.inr.inr.inr.inr =>
    have hr : inB a b n x y = true := by simp [inB, hm]; omega
    have HR := Lib.hid hr
    obtain ⟨q1, q2, q3, q4, q5⟩ := size_ok (may_ok hm).1
    obtain ⟨m0, m1⟩ := mul_bd y a 256 256 h3 (by omega) (by omega) q2
    have w1 : wrap64 (y * a) = y * a := IntWalk.wrap64_in _ (by omega)
    have w2 : wrap64 (y * a + x) = y * a + x := IntWalk.wrap64_in _ (by omega)
    have w3 : wrap64 (4 * (y * a + x)) = 4 * (y * a + x) := IntWalk.wrap64_in _ (by omega)
    have HM := Lib.hid hm
    clear hm hr q1 q2 q3 q4 q5
    go_enter Try.func33, Try.ntmps33
    go_wp2_with fail
    refine (may_prog a b A n cap ha hb hn hc _).mono ?_
    rintro e u1 ⟨rfl, hB⟩
    rw [HM.out]
    have hbx := hp_below (hp_new0 w _) hB (by simp)
    have k0 := hp_cell (j := 0) hbx rfl
    have k1 := hp_cell (j := 1) hbx rfl
    have HB := Lib.hid ((((Below.refl _ w).alloc (Nat.le_refl _) _).trans (hB.mono (by simp))))
    clear hB hbx
    go_wp2
    go_ret2
    refine ⟨HB.out, _, ret2_ib rfl (by rw [HR.out] <;> (simp; omega)), ?_⟩
    intro _
    exact w3
  case inl =>
    have hr : inB a b n x y = false := by simp [inB, hm]
    have HR := Lib.hid hr
    have HM := Lib.hid hm
    clear hm hr
    go_enter Try.func33, Try.ntmps33
    go_wp2_with fail
    refine (may_prog a b A n cap ha hb hn hc _).mono ?_
    rintro e u1 ⟨rfl, hB⟩
    rw [HM.out]
    have hbx := hp_below (hp_new0 w _) hB (by simp)
    have k0 := hp_cell (j := 0) hbx rfl
    have k1 := hp_cell (j := 1) hbx rfl
    have HB := Lib.hid ((((Below.refl _ w).alloc (Nat.le_refl _) _).trans (hB.mono (by simp))))
    clear hB hbx
    go_wp2
    go_ret2
    refine ⟨HB.out, _, ret2_ib rfl (by rw [HR.out] <;> (simp; omega)), ?_⟩
    intro h
    rw [HR.out] at h
    cases h
  case inr.inl =>
    have hr : inB a b n x y = false := by simp [inB, hm]; omega
    have HR := Lib.hid hr
    have HM := Lib.hid hm
    clear hm hr
    go_enter Try.func33, Try.ntmps33
    go_wp2_with fail
    refine (may_prog a b A n cap ha hb hn hc _).mono ?_
    rintro e u1 ⟨rfl, hB⟩
    rw [HM.out]
    have hbx := hp_below (hp_new0 w _) hB (by simp)
    have k0 := hp_cell (j := 0) hbx rfl
    have k1 := hp_cell (j := 1) hbx rfl
    have HB := Lib.hid ((((Below.refl _ w).alloc (Nat.le_refl _) _).trans (hB.mono (by simp))))
    clear hB hbx
    go_wp2
    go_ret2
    refine ⟨HB.out, _, ret2_ib rfl (by rw [HR.out] <;> (simp; omega)), ?_⟩
    intro h
    rw [HR.out] at h
    cases h
  case inr.inr.inl =>
    have hr : inB a b n x y = false := by simp [inB, hm]; omega
    have HR := Lib.hid hr
    have HM := Lib.hid hm
    clear hm hr
    go_enter Try.func33, Try.ntmps33
    go_wp2_with fail
    refine (may_prog a b A n cap ha hb hn hc _).mono ?_
    rintro e u1 ⟨rfl, hB⟩
    rw [HM.out]
    have hbx := hp_below (hp_new0 w _) hB (by simp)
    have k0 := hp_cell (j := 0) hbx rfl
    have k1 := hp_cell (j := 1) hbx rfl
    have HB := Lib.hid ((((Below.refl _ w).alloc (Nat.le_refl _) _).trans (hB.mono (by simp))))
    clear hB hbx
    go_wp2
    go_ret2
    refine ⟨HB.out, _, ret2_ib rfl (by rw [HR.out] <;> (simp; omega)), ?_⟩
    intro h
    rw [HR.out] at h
    cases h
  case inr.inr.inr.inl =>
    have hr : inB a b n x y = false := by simp [inB, hm]; omega
    have HR := Lib.hid hr
    have HM := Lib.hid hm
    clear hm hr
    go_enter Try.func33, Try.ntmps33
    go_wp2_with fail
    refine (may_prog a b A n cap ha hb hn hc _).mono ?_
    rintro e u1 ⟨rfl, hB⟩
    rw [HM.out]
    have hbx := hp_below (hp_new0 w _) hB (by simp)
    have k0 := hp_cell (j := 0) hbx rfl
    have k1 := hp_cell (j := 1) hbx rfl
    have HB := Lib.hid ((((Below.refl _ w).alloc (Nat.le_refl _) _).trans (hB.mono (by simp))))
    clear hB hbx
    go_wp2
    go_ret2
    refine ⟨HB.out, _, ret2_ib rfl (by rw [HR.out] <;> (simp; omega)), ?_⟩
    intro h
    rw [HR.out] at h
    cases h
  case inr.inr.inr.inr.inl =>
    have hr : inB a b n x y = false := by simp [inB, hm]; omega
    have HR := Lib.hid hr
    have HM := Lib.hid hm
    clear hm hr
    go_enter Try.func33, Try.ntmps33
    go_wp2_with fail
    refine (may_prog a b A n cap ha hb hn hc _).mono ?_
    rintro e u1 ⟨rfl, hB⟩
    rw [HM.out]
    have hbx := hp_below (hp_new0 w _) hB (by simp)
    have k0 := hp_cell (j := 0) hbx rfl
    have k1 := hp_cell (j := 1) hbx rfl
    have HB := Lib.hid ((((Below.refl _ w).alloc (Nat.le_refl _) _).trans (hB.mono (by simp))))
    clear hB hbx
    go_wp2
    go_ret2
    refine ⟨HB.out, _, ret2_ib rfl (by rw [HR.out] <;> (simp; omega)), ?_⟩
    intro h
    rw [HR.out] at h
    cases h
end Go.Proofs.Ythgafdbdmemkhaa
