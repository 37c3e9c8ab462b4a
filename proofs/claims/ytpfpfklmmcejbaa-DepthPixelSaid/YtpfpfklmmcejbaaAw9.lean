/- Ratios; engraverlaw9.awake. -/
import Derived.Test.YtpfpfklmmcejbaaDep
import Derived.WalkLawsBesides
namespace Go.Proofs.Ytpfpfklmmcejbaa
set_option linter.unusedVariables false
open Go.ChangeShapes Go.WideShapes Go.ChangeAt Go.RowKit

def signB (x : Nat) : Bool := decide (wrap64 x < 0)
def numB (x : Nat) : Bool := FloatKind.f64.format.order x x == some .eq
def goodB (x : Nat) : Bool := numB x && !signB x
def lessB (x y : Nat) : Bool := FloatKind.f64.format.order x y == some .lt
def betterB (x y : Nat) : Bool := goodB x && (!goodB y || lessB x y)

theorem run26 (x : Nat) (w : World) : (callFunc 26 #[.float .f64 x]).run Try.prog w = .ok (.value (.int .u64 x)) w := by kernel_rfl
theorem run33 (x : Nat) (w : World) : (callFunc 33 #[.int .u64 x]).run Try.prog w = .ok (.value (.float .f64 x)) w := by kernel_rfl
theorem run33c (w : World) : (callFunc 33 #[.int .u64 9221120237041090561]).run Try.prog w = .ok (.value (.float .f64 9221120237041090561)) w := by kernel_rfl

theorem isnan34 (x : Nat) (w : World) : Calls Try.prog 34 #[.float .f64 x] w fun e w' => e = .returned (.bool (!numB x)) ∧ w = w' := by
  go_enter Try.func34, Try.ntmps34
  go_wp2
  go_ret
  exact ⟨ret_b (by simp [numB, bne]), rfl⟩
theorem signbit18 (x : Nat) (w : World) : Calls Try.prog 18 #[.float .f64 x] w fun e w' => e = .returned (.bool (signB x)) ∧ w = w' := by
  have r26 := run26
  go_enter Try.func18, Try.ntmps18
  go_wp2
  go_ret
  exact ⟨ret_b (by simp [signB]), rfl⟩
theorem good25 (x : Nat) (w : World) : Calls Try.prog 25 #[.float .f64 x] w fun e w' => e = .returned (.bool (goodB x)) ∧ w = w' := by
  cases hn : numB x
  all_goals
    go_enter Try.func25, Try.ntmps25
    go_wp2_with (first | (go_at_call 34; refine (isnan34 _ _).mono ?_; rintro e w' ⟨rfl, rfl⟩) | (go_at_call 18; refine (signbit18 _ _).mono ?_; rintro e w' ⟨rfl, rfl⟩))
    go_ret
    exact ⟨ret_b (by simp [goodB, hn]), rfl⟩
theorem better15 (x y : Nat) (w : World) : Calls Try.prog 15 #[.float .f64 x, .float .f64 y] w fun e w' => e = .returned (.bool (betterB x y)) ∧ w = w' := by
  cases hx : goodB x <;> cases hy : goodB y
  all_goals
    go_enter Try.func15, Try.ntmps15
    go_wp2_with (go_at_call 25; refine (good25 _ _).mono ?_; rintro e w' ⟨rfl, rfl⟩)
    go_ret
    exact ⟨ret_b (by simp [betterB, lessB, hx, hy]), rfl⟩
theorem nan23 (w : World) : Calls Try.prog 23 #[] w fun e w' => e = .returned (.float .f64 9221120237041090561) ∧ w = w' := by
  have r33 := run33c
  go_enter Try.func23, Try.ntmps23
  go_wp2
  go_ret
  exact ⟨rfl, rfl⟩
theorem awake9 (w : World) : Calls Try.prog 8 #[] w fun e w' => e = .returned (.bool true) ∧ w = w' := by
  have h1 : upV 1 1 = 65535 := by decide
  have h2 : upB 1 1 = true := by decide
  have h3 : maskV 16 5 = 33924 := by decide
  have h4 : maskB 16 5 = true := by decide
  have h5 : eightV 257 = 1 := by decide
  have h6 : eightB 257 = true := by decide
  have h7 : betterB 4607182418800017408 9221120237041090561 = true := by kernel_rfl
  go_enter Try.func8, Try.ntmps8
  go_wp2_with (first
    | (go_at_call 9; refine (up9 _ _ (by omega) (by omega) _).mono ?_; rintro e w' ⟨rfl, rfl⟩)
    | (go_at_call 11; refine (mask11 _ _ (by omega) (by omega) _).mono ?_; rintro e w' ⟨rfl, rfl⟩)
    | (go_at_call 13; refine (eight13 _ (by omega) (by omega) _).mono ?_; rintro e w' ⟨rfl, rfl⟩)
    | (go_at_call 23; refine (nan23 _).mono ?_; rintro e w' ⟨rfl, rfl⟩)
    | (go_at_call 15; refine (better15 _ _ _).mono ?_; rintro e w' ⟨rfl, rfl⟩))
  go_ret
  exact ⟨rfl, rfl⟩
end Go.Proofs.Ytpfpfklmmcejbaa
