/- Contracts for chapter 9's ratios: the reference's Better, the program's Ratio. -/
import Derived.Test.YtpfpfklmmcejbaaA
import Derived.Test.YtpfpfklmmcejbaaFl
namespace Go.Proofs.Ytpfpfklmmcejbaa
set_option linter.unusedVariables false
open Go.ChangeShapes Go.WideShapes Go.ChangeAt Go.RowKit

theorem sign_neg (x : Nat) (hx : x < 18446744073709551616) : signB x = negB x := by
  unfold signB negB wrap64
  rw [Bool.eq_iff_iff]
  simp
  omega
theorem cls (x : Nat) (hx : x < 18446744073709551616) :
    (D64.order x x = none) ∨ (D64.order x x = some .eq ∧ D64.order x 0 = some .gt ∧ signB x = false) ∨ x = 0 ∨ x = 9223372036854775808 ∨
      (D64.order x x = some .eq ∧ D64.order x 0 = some .lt ∧ signB x = true) := by
  rw [sign_neg x hx]
  rcases ord_self x with h | ⟨h, _⟩
  · have h0 := ord_zero x h
    by_cases hz : x % 9223372036854775808 = 0
    · have : x = 0 ∨ x = 9223372036854775808 := by omega
      rcases this with h1 | h1
      · exact .inr (.inr (.inl h1))
      · exact .inr (.inr (.inr (.inl h1)))
    · rw [if_neg hz] at h0
      cases hn : negB x
      · rw [hn] at h0; exact .inr (.inl ⟨h, h0, rfl⟩)
      · rw [hn] at h0; exact .inr (.inr (.inr (.inr ⟨h, h0, rfl⟩)))
  · exact .inl h
theorem quo0 (w : World) : (binOp .quo 32 (.float .f64 4607182418800017408) (.float .f64 0)).run Try.prog w = .ok (.float .f64 9218868437227405312) w :=
  run_float_arith w .quo 32 .f64 _ _ _ (by kernel_rfl)
theorem quo1 (w : World) : (binOp .quo 32 (.float .f64 4607182418800017408) (.float .f64 9223372036854775808)).run Try.prog w = .ok (.float .f64 18442240474082181120) w :=
  run_float_arith w .quo 32 .f64 _ _ _ (by kernel_rfl)

set_option maxHeartbeats 4000000 in
theorem better16 (x y : Nat) (hx : x < 18446744073709551616) (hy : y < 18446744073709551616) (w : World) :
    Calls Try.prog 16 #[.float .f64 x, .float .f64 y] w fun e w' => e = .returned (.bool (betterB x y)) ∧ w = w' := by
  have q0 := quo0
  have q1 := quo1
  have c0 : D64.order 0 0 = some .eq := by kernel_rfl
  have c1 : D64.order 9223372036854775808 9223372036854775808 = some .eq := by kernel_rfl
  have c2 : D64.order 9223372036854775808 0 = some .eq := by kernel_rfl
  have c3 : D64.order 9218868437227405312 0 = some .gt := by kernel_rfl
  have c4 : D64.order 18442240474082181120 0 = some .lt := by kernel_rfl
  have s0 : signB 0 = false := by kernel_rfl
  have s1 : signB 9223372036854775808 = true := by kernel_rfl
  rcases cls x hx with h1 | ⟨h1, h2, h3⟩ | rfl | rfl | ⟨h1, h2, h3⟩ <;> rcases cls y hy with h4 | ⟨h4, h5, h6⟩ | rfl | rfl | ⟨h4, h5, h6⟩
  all_goals
    go_enter Try.func16, Try.ntmps16
    go_wp2
    go_ret
    exact ⟨ret_b (by simp [betterB, goodB, numB, lessB, *]), rfl⟩

/-- The bits of the NaN that the tape gives. -/
def nanAt (w : World) (x y : Nat) : Nat := (Question.nanBits .f64 x y).cut (w.tape w.drawn (.nanBits .f64 x y))
theorem nanAt_nan (w : World) (x y : Nat) : D64.order (nanAt w x y) (nanAt w x y) = none := nan_cut _
theorem run_quo_nan (w : World) (x y : Nat) (h : D64.div x y = none) : (binOp .quo 32 (.float .f64 x) (.float .f64 y)).run Try.prog w = .ok (.float .f64 (nanAt w x y)) w.drew := by
  have h' : FloatKind.f64.format.div x y = none := h
  simp [binOp, Op.floatArith, h', nanAt, Question.forced]
theorem run_quo_num (w : World) (x y r : Nat) (h : D64.div x y = some r) : (binOp .quo 32 (.float .f64 x) (.float .f64 y)).run Try.prog w = .ok (.float .f64 r) w :=
  run_float_arith w .quo 32 .f64 _ _ _ h
theorem ret_f {a b : Nat} (h : a = b) : Ending.returned (.float .f64 a) = .returned (.float .f64 b) := by rw [h]
theorem ratio17_num (a b : Int) (r : Nat) (h : D64.div (floatOfInt .f64 a) (floatOfInt .f64 b) = some r) (w : World) :
    Calls Try.prog 17 #[.int .i64 a, .int .i64 b] w fun e w' => e = .returned (.float .f64 r) ∧ w = w' := by
  have q := fun w => run_quo_num w _ _ _ h
  go_enter Try.func17, Try.ntmps17
  go_wp2
  go_ret
  exact ⟨rfl, rfl⟩
theorem ratio17_nan (a b : Int) (h : D64.div (floatOfInt .f64 a) (floatOfInt .f64 b) = none) (w : World) :
    Calls Try.prog 17 #[.int .i64 a, .int .i64 b] w fun e w' => e = .returned (.float .f64 (nanAt w (floatOfInt .f64 a) (floatOfInt .f64 b))) ∧ w.drew = w' := by
  have q := fun w => run_quo_nan w _ _ h
  go_enter Try.func17, Try.ntmps17
  go_wp2
  go_ret
  exact ⟨rfl, rfl⟩
end Go.Proofs.Ytpfpfklmmcejbaa
