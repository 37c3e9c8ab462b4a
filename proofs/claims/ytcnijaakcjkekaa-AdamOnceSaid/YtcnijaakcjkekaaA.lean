/- Contracts of layer 13's plain functions. -/
import Derived.Test.YtcnijaakcjkekaaRows
import Derived.Test.YtcnijaakcjkekaaMem
import Derived.WalkKit
import Derived.ProofKit
import Derived.OpenShut
import Derived.WalkLawsBesides
import Derived.WalkSpells
import Derived.Outline
import Derived.Lib.Hide
namespace Go.Proofs.Ytcnijaakcjkekaa
set_option linter.unusedVariables false
open Go.ChangeShapes Go.WideShapes Go.ChangeAt Go.RowKit

/-- Whether sides may be: 0, or the error's number. -/
def sizeE (w h : Int) : Int := if w < 1 ∨ h < 1 then 1 else if 256 < w ∨ 256 < h ∨ 16384 / h < w then 6 else 0
theorem ret_i {k : IntKind} {a b : Int} (h : a = b) : Ending.returned (.int k a) = .returned (.int k b) := by rw [h]

theorem size19 (a b : Int) (ha : -9223372036854775808 ≤ a) (ha' : a ≤ 9223372036854775807) (hb : -9223372036854775808 ≤ b) (hb' : b ≤ 9223372036854775807) (w : World) :
    Calls Try.prog 19 #[.int .i64 a, .int .i64 b] w fun e w' => e = .returned (.int .i64 (sizeE a b)) ∧ w = w' := by
  by_cases h1 : a < 1
  · go_enter Try.func19, Try.ntmps19
    go_wp2
    go_ret
    exact ⟨ret_i (by simp [sizeE, h1]), rfl⟩
  · by_cases h2 : b < 1
    · go_enter Try.func19, Try.ntmps19
      go_wp2
      go_ret
      exact ⟨ret_i (by simp [sizeE, h2]), rfl⟩
    · go_enter Try.func19, Try.ntmps19
      go_wp2
      all_goals go_ret
      all_goals refine ⟨ret_i ?_, rfl⟩
      all_goals (unfold sizeE; rw [if_neg (by omega)]; first | rw [if_pos (by omega)] | rw [if_neg (by omega)])
theorem size21 (a b : Int) (ha : -9223372036854775808 ≤ a) (ha' : a ≤ 9223372036854775807) (hb : -9223372036854775808 ≤ b) (hb' : b ≤ 9223372036854775807) (w : World) :
    Calls Try.prog 21 #[.int .i64 a, .int .i64 b] w fun e w' => e = .returned (.int .i64 (sizeE a b)) ∧ w = w' := by
  by_cases h1 : a < 1
  · go_enter Try.func21, Try.ntmps21
    go_wp2
    go_ret
    exact ⟨ret_i (by simp [sizeE, h1]), rfl⟩
  · by_cases h2 : b < 1
    · go_enter Try.func21, Try.ntmps21
      go_wp2
      go_ret
      exact ⟨ret_i (by simp [sizeE, h2]), rfl⟩
    · go_enter Try.func21, Try.ntmps21
      go_wp2
      all_goals go_ret
      all_goals refine ⟨ret_i ?_, rfl⟩
      all_goals (unfold sizeE; rw [if_neg (by omega)]; first | rw [if_pos (by omega)] | rw [if_neg (by omega)])

/-- How many places there are from x on, by steps of d, below n. -/
def many (x d n : Int) : Int := if n ≤ x then 0 else (n - x + d - 1) / d
theorem many23 (x d n : Int) (hx : 0 ≤ x) (hx' : x ≤ 8) (hd : 1 ≤ d) (hd' : d ≤ 8) (hn : 1 ≤ n) (hn' : n ≤ 256) (w : World) :
    Calls Try.prog 23 #[.int .i64 x, .int .i64 d, .int .i64 n] w fun e w' => e = .returned (.int .i64 (many x d n)) ∧ w = w' := by
  go_enter Try.func23, Try.ntmps23
  go_wp2
  all_goals go_ret
  all_goals refine ⟨ret_i ?_, rfl⟩
  all_goals (unfold many; first | rw [if_pos (by omega)] | rw [if_neg (by omega)])
structure P6 where
  x : Int
  y : Int
  dx : Int
  dy : Int
  w : Int
  h : Int
def cells6 (p : P6) : List Value := [.int .i64 p.x, .int .i64 p.y, .int .i64 p.dx, .int .i64 p.dy, .int .i64 p.w, .int .i64 p.h]
def cellsL (l : List P6) : List Value := l.flatMap cells6
def ofL (x y dx dy a b : Int) : P6 := ⟨x, y, dx, dy, many x dx a, many y dy b⟩
/-- A pass as a value's cells: closed to the walk. -/
def arr6 (p : P6) : Array Value := (cells6 p).toArray
theorem of20 (x y dx dy a b : Int) (hx : 0 ≤ x) (hx' : x ≤ 8) (hy : 0 ≤ y) (hy' : y ≤ 8) (hd : 1 ≤ dx) (hd' : dx ≤ 8) (he : 1 ≤ dy) (he' : dy ≤ 8) (ha : 1 ≤ a) (ha' : a ≤ 256) (hb : 1 ≤ b) (hb' : b ≤ 256) (w : World) :
    Calls Try.prog 20 #[.int .i64 x, .int .i64 y, .int .i64 dx, .int .i64 dy, .int .i64 a, .int .i64 b] w fun e w' =>
      e = .returned (.agg (arr6 (ofL x y dx dy a b))) ∧ Below w.heap.size w w' := by
  go_enter Try.func20, Try.ntmps20
  go_wp2_with (go_at_call 23; refine (many23 _ _ _ (by omega) (by omega) (by omega) (by omega) (by omega) (by omega) _).mono ?_; rintro e w' ⟨rfl, rfl⟩)
  exact bodyPost_ret (v := .agg #[.int .i64 x, .int .i64 y, .int .i64 dx, .int .i64 dy, .int .i64 (many x dx a), .int .i64 (many y dy b)]) (by simp [results, Try.results20, go_sem]) rfl ⟨rfl, (Below.refl _ _).alloc (Nat.le_refl _) _⟩
end Go.Proofs.Ytcnijaakcjkekaa
