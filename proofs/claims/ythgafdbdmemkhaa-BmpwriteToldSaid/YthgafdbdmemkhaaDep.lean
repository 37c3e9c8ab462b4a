/- depth's plain functions: Up, Mask, Eight, of the program and of the reference. -/
import Derived.Test.YthgafdbdmemkhaaRas
import Derived.WalkLawsBesides
namespace Go.Proofs.Ythgafdbdmemkhaa
set_option linter.unusedVariables false
open Go.ChangeShapes Go.WideShapes Go.ChangeAt Go.RowKit

def upB (v b : Int) : Bool := decide ((b = 1 ∨ b = 2 ∨ b = 4 ∨ b = 8 ∨ b = 16) ∧ 0 ≤ v ∧ v < 2 ^ b.toNat)
def upV (v b : Int) : Int := if upB v b then v * (65535 / (2 ^ b.toNat - 1)) else 0
def maskB (v b : Int) : Bool := decide (1 ≤ b ∧ b ≤ 8 ∧ 0 ≤ v ∧ v < 2 ^ b.toNat)
def maskV (v b : Int) : Int := if maskB v b then (2 * v * 255 + (2 ^ b.toNat - 1)) / (2 * (2 ^ b.toNat - 1)) * 257 else 0
def eightB (s : Int) : Bool := decide (s % 257 = 0)
def eightV (s : Int) : Int := if eightB s then s / 257 else 0

set_option maxHeartbeats 400000 in
theorem mask12 (v b : Int) (hv : -9223372036854775808 ≤ v) (hv' : v ≤ 9223372036854775807) (w : World) :
    Calls Try.prog 37 #[.int .i64 v, .int .i64 b] w fun e w' => e = .returned (.tuple #[.int .u16 (maskV v b), .bool (maskB v b)]) ∧ w = w' := by
  have hb : b = 1 ∨ b = 2 ∨ b = 3 ∨ b = 4 ∨ b = 5 ∨ b = 6 ∨ b = 7 ∨ b = 8 ∨ b < 1 ∨ 8 < b := by omega
  rcases hb with rfl | rfl | rfl | rfl | rfl | rfl | rfl | rfl | h1 | h1
  all_goals
    go_enter Try.func37, Try.ntmps37
    go_wp2
  all_goals go_ret2
  all_goals refine ⟨ret2_ib ?_ ?_, rfl⟩
  all_goals (simp [maskV, maskB]; try omega)
theorem u16_quo (s : Int) (h0 : 0 ≤ s) (h1 : s ≤ 65535) : IntKind.u16.wrap (s.tdiv 257) = s / 257 := by
  rw [Int.tdiv_eq_ediv_of_nonneg h0]
  simp [IntKind.wrap, IntKind.signed, IntKind.bits]; omega
theorem eight13 (s : Int) (h0 : 0 ≤ s) (h1 : s ≤ 65535) (w : World) : Calls Try.prog 18 #[.int .u16 s] w fun e w' => e = .returned (.tuple #[.int .u8 (eightV s), .bool (eightB s)]) ∧ w = w' := by
  have hq := u16_quo s h0 h1
  go_enter Try.func18, Try.ntmps18
  go_wp2
  all_goals go_ret2
  all_goals refine ⟨ret2_ib ?_ ?_, rfl⟩
  all_goals (simp_all [eightV, eightB]; try omega)
end Go.Proofs.Ythgafdbdmemkhaa
