/-
  Contracts of layer 9's plain functions: Up, Mask, Eight of the program and of the reference; good, Better; the law's awake.
-/
import Derived.Test.YtpfpfklmmcejbaaRows
import Derived.WalkKit
import Derived.ProofKit
import Derived.OpenShut
import Derived.WalkLawsBesides
import Derived.WalkSpells
import Derived.Outline
import Derived.Lib.Hide
namespace Go.Proofs.Ytpfpfklmmcejbaa
open Go.ChangeShapes Go.WideShapes Go.ChangeAt Go.RowKit

def upB (v b : Int) : Bool := decide ((b = 1 ∨ b = 2 ∨ b = 4 ∨ b = 8 ∨ b = 16) ∧ 0 ≤ v ∧ v < 2 ^ b.toNat)
def upV (v b : Int) : Int := if upB v b then v * (65535 / (2 ^ b.toNat - 1)) else 0
def maskB (v b : Int) : Bool := decide (1 ≤ b ∧ b ≤ 8 ∧ 0 ≤ v ∧ v < 2 ^ b.toNat)
def maskV (v b : Int) : Int := if maskB v b then (2 * v * 255 + (2 ^ b.toNat - 1)) / (2 * (2 ^ b.toNat - 1)) * 257 else 0
def eightB (s : Int) : Bool := decide (s % 257 = 0)
def eightV (s : Int) : Int := if eightB s then s / 257 else 0

theorem ret_b {b b' : Bool} (h' : b = b') : Ending.returned (.bool b) = .returned (.bool b') := by rw [h']
theorem ret2_ib {k : IntKind} {a a' : Int} {b b' : Bool} (h : a = a') (h' : b = b') : Ending.returned (.tuple #[.int k a, .bool b]) = .returned (.tuple #[.int k a', .bool b']) := by rw [h, h']

theorem up9 (v b : Int) (hv : -9223372036854775808 ≤ v) (hv' : v ≤ 9223372036854775807) (w : World) :
    Calls Try.prog 9 #[.int .i64 v, .int .i64 b] w fun e w' => e = .returned (.tuple #[.int .u16 (upV v b), .bool (upB v b)]) ∧ w = w' := by
  have hb : b = 1 ∨ b = 2 ∨ b = 4 ∨ b = 8 ∨ b = 16 ∨ (b ≠ 1 ∧ b ≠ 2 ∧ b ≠ 4 ∧ b ≠ 8 ∧ b ≠ 16) := by omega
  rcases hb with rfl | rfl | rfl | rfl | rfl | ⟨h1, h2, h3, h4, h5⟩
  all_goals
    go_enter Try.func9, Try.ntmps9
    go_wp2
  all_goals go_ret2
  all_goals refine ⟨ret2_ib ?_ ?_, rfl⟩
  all_goals (simp [upV, upB]; try omega)
theorem up10 (v b : Int) (hv : -9223372036854775808 ≤ v) (hv' : v ≤ 9223372036854775807) (w : World) :
    Calls Try.prog 10 #[.int .i64 v, .int .i64 b] w fun e w' => e = .returned (.tuple #[.int .u16 (upV v b), .bool (upB v b)]) ∧ w = w' := by
  have hb : b = 1 ∨ b = 2 ∨ b = 4 ∨ b = 8 ∨ b = 16 ∨ (b ≠ 1 ∧ b ≠ 2 ∧ b ≠ 4 ∧ b ≠ 8 ∧ b ≠ 16) := by omega
  rcases hb with rfl | rfl | rfl | rfl | rfl | ⟨h1, h2, h3, h4, h5⟩
  all_goals
    go_enter Try.func10, Try.ntmps10
    go_wp2
  all_goals go_ret2
  all_goals refine ⟨ret2_ib ?_ ?_, rfl⟩
  all_goals (simp [upV, upB]; try omega)

theorem mask11 (v b : Int) (hv : -9223372036854775808 ≤ v) (hv' : v ≤ 9223372036854775807) (w : World) :
    Calls Try.prog 11 #[.int .i64 v, .int .i64 b] w fun e w' => e = .returned (.tuple #[.int .u16 (maskV v b), .bool (maskB v b)]) ∧ w = w' := by
  have hb : b = 1 ∨ b = 2 ∨ b = 3 ∨ b = 4 ∨ b = 5 ∨ b = 6 ∨ b = 7 ∨ b = 8 ∨ b < 1 ∨ 8 < b := by omega
  rcases hb with rfl | rfl | rfl | rfl | rfl | rfl | rfl | rfl | h1 | h1
  all_goals
    go_enter Try.func11, Try.ntmps11
    go_wp2
  all_goals go_ret2
  all_goals refine ⟨ret2_ib ?_ ?_, rfl⟩
  all_goals (simp [maskV, maskB]; try omega)
set_option maxHeartbeats 400000 in
theorem mask12 (v b : Int) (hv : -9223372036854775808 ≤ v) (hv' : v ≤ 9223372036854775807) (w : World) :
    Calls Try.prog 12 #[.int .i64 v, .int .i64 b] w fun e w' => e = .returned (.tuple #[.int .u16 (maskV v b), .bool (maskB v b)]) ∧ w = w' := by
  have hb : b = 1 ∨ b = 2 ∨ b = 3 ∨ b = 4 ∨ b = 5 ∨ b = 6 ∨ b = 7 ∨ b = 8 ∨ b < 1 ∨ 8 < b := by omega
  rcases hb with rfl | rfl | rfl | rfl | rfl | rfl | rfl | rfl | h1 | h1
  all_goals
    go_enter Try.func12, Try.ntmps12
    go_wp2
  all_goals go_ret2
  all_goals refine ⟨ret2_ib ?_ ?_, rfl⟩
  all_goals (simp [maskV, maskB]; try omega)
theorem u16_quo (s : Int) (h0 : 0 ≤ s) (h1 : s ≤ 65535) : IntKind.u16.wrap (s.tdiv 257) = s / 257 := by
  rw [Int.tdiv_eq_ediv_of_nonneg h0]
  simp [IntKind.wrap, IntKind.signed, IntKind.bits]; omega
theorem eight13 (s : Int) (h0 : 0 ≤ s) (h1 : s ≤ 65535) (w : World) : Calls Try.prog 13 #[.int .u16 s] w fun e w' => e = .returned (.tuple #[.int .u8 (eightV s), .bool (eightB s)]) ∧ w = w' := by
  have hq := u16_quo s h0 h1
  go_enter Try.func13, Try.ntmps13
  go_wp2
  all_goals go_ret2
  all_goals refine ⟨ret2_ib ?_ ?_, rfl⟩
  all_goals (simp_all [eightV, eightB]; try omega)
theorem eight14 (s : Int) (h0 : 0 ≤ s) (h1 : s ≤ 65535) (w : World) : Calls Try.prog 14 #[.int .u16 s] w fun e w' => e = .returned (.tuple #[.int .u8 (eightV s), .bool (eightB s)]) ∧ w = w' := by
  have hq := u16_quo s h0 h1
  go_enter Try.func14, Try.ntmps14
  go_wp2
  all_goals go_ret2
  all_goals refine ⟨ret2_ib ?_ ?_, rfl⟩
  all_goals (simp_all [eightV, eightB]; try omega)

def signB (x : Nat) : Bool := decide (wrap64 x < 0)
def numB (x : Nat) : Bool := FloatKind.f64.format.order x x == some .eq
def goodB (x : Nat) : Bool := numB x && !signB x
def lessB (x y : Nat) : Bool := FloatKind.f64.format.order x y == some .lt
def betterB (x y : Nat) : Bool := goodB x && (!goodB y || lessB x y)

theorem run26 (x : Nat) (w : World) : (callFunc 26 #[.float .f64 x]).run Try.prog w = .ok (.value (.int .u64 x)) w := by kernel_rfl
theorem run33 (x : Nat) (w : World) : (callFunc 33 #[.int .u64 x]).run Try.prog w = .ok (.value (.float .f64 x)) w := by kernel_rfl
theorem run33c (w : World) : (callFunc 33 #[.int .u64 9221120237041090561]).run Try.prog w = .ok (.value (.float .f64 9221120237041090561)) w := by kernel_rfl

theorem isnan34 (x : Nat) (w : World) : Calls Try.prog 34 #[.float .f64 x] w fun e w' => e = .returned (.bool (!numB x)) ∧ w = w' := by
  go_enter Try.func34, Try.ntmps34
  go_wp2
  go_ret
  exact ⟨ret_b (by simp [numB, bne]), rfl⟩
theorem signbit18 (x : Nat) (w : World) : Calls Try.prog 18 #[.float .f64 x] w fun e w' => e = .returned (.bool (signB x)) ∧ w = w' := by
  have r26 := run26
  go_enter Try.func18, Try.ntmps18
  go_wp2
  go_ret
  exact ⟨ret_b (by simp [signB]), rfl⟩
theorem good25 (x : Nat) (w : World) : Calls Try.prog 25 #[.float .f64 x] w fun e w' => e = .returned (.bool (goodB x)) ∧ w = w' := by
  cases hn : numB x
  all_goals
    go_enter Try.func25, Try.ntmps25
    go_wp2_with (first | (go_at_call 34; refine (isnan34 _ _).mono ?_; rintro e w' ⟨rfl, rfl⟩) | (go_at_call 18; refine (signbit18 _ _).mono ?_; rintro e w' ⟨rfl, rfl⟩))
    go_ret
    exact ⟨ret_b (by simp [goodB, hn]), rfl⟩
theorem better15 (x y : Nat) (w : World) : Calls Try.prog 15 #[.float .f64 x, .float .f64 y] w fun e w' => e = .returned (.bool (betterB x y)) ∧ w = w' := by
  cases hx : goodB x <;> cases hy : goodB y
  all_goals
    go_enter Try.func15, Try.ntmps15
    go_wp2_with (go_at_call 25; refine (good25 _ _).mono ?_; rintro e w' ⟨rfl, rfl⟩)
    go_ret
    exact ⟨ret_b (by simp [betterB, lessB, hx, hy]), rfl⟩
theorem nan23 (w : World) : Calls Try.prog 23 #[] w fun e w' => e = .returned (.float .f64 9221120237041090561) ∧ w = w' := by
  have r33 := run33c
  go_enter Try.func23, Try.ntmps23
  go_wp2
  go_ret
  exact ⟨rfl, rfl⟩
theorem awake8 (w : World) : Calls Try.prog 8 #[] w fun e w' => e = .returned (.bool true) ∧ w = w' := by
  have h1 : upV 1 1 = 65535 := by decide
  have h2 : upB 1 1 = true := by decide
  have h3 : maskV 16 5 = 33924 := by decide
  have h4 : maskB 16 5 = true := by decide
  have h5 : eightV 257 = 1 := by decide
  have h6 : eightB 257 = true := by decide
  have h7 : betterB 4607182418800017408 9221120237041090561 = true := by kernel_rfl
  go_enter Try.func8, Try.ntmps8
  go_wp2_with (first
    | (go_at_call 9; refine (up9 _ _ (by omega) (by omega) _).mono ?_; rintro e w' ⟨rfl, rfl⟩)
    | (go_at_call 11; refine (mask11 _ _ (by omega) (by omega) _).mono ?_; rintro e w' ⟨rfl, rfl⟩)
    | (go_at_call 13; refine (eight13 _ (by omega) (by omega) _).mono ?_; rintro e w' ⟨rfl, rfl⟩)
    | (go_at_call 23; refine (nan23 _).mono ?_; rintro e w' ⟨rfl, rfl⟩)
    | (go_at_call 15; refine (better15 _ _ _).mono ?_; rintro e w' ⟨rfl, rfl⟩))
  go_ret
  exact ⟨rfl, rfl⟩
end Go.Proofs.Ytpfpfklmmcejbaa
