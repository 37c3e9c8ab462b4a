/- A byte's lowest bits. -/
import Derived.Test.YtioghgnngdcicaaLzO
namespace Go.Proofs.Ytioghgnngdcicaa
set_option linter.unusedVariables false
open Go.ChangeShapes Go.WideShapes Go.ChangeAt Go.RowKit

theorem mask_facts (v sz : Nat) (hv : v < 256) (h1 : 2 ≤ sz) (h2 : sz ≤ 8) : ∃ p q : Nat, p < 256 ∧ q < 256 ∧ IntKind.u8.wrap ((2 : Int) ^ sz) = (p : Int) ∧ IntKind.u8.wrap ((p : Int) - 1) = (q : Int) ∧ bits BinOp.and IntKind.u8 (v : Int) (q : Int) = ((v % 2 ^ sz : Nat) : Int) := by
  have key : ∀ q : Nat, q = 2 ^ sz - 1 → q < 256 → bits BinOp.and IntKind.u8 (v : Int) (q : Int) = ((v % 2 ^ sz : Nat) : Int) := fun q hq hq2 => by
    rw [u8_and_nat v q hv hq2, hq, Nat.and_two_pow_sub_one_eq_mod]
  have h : sz = 2 ∨ sz = 3 ∨ sz = 4 ∨ sz = 5 ∨ sz = 6 ∨ sz = 7 ∨ sz = 8 := by omega
  rcases h with rfl | rfl | rfl | rfl | rfl | rfl | rfl
  · exact ⟨4, 3, by omega, by omega, by decide, by decide, key 3 rfl (by omega)⟩
  · exact ⟨8, 7, by omega, by omega, by decide, by decide, key 7 rfl (by omega)⟩
  · exact ⟨16, 15, by omega, by omega, by decide, by decide, key 15 rfl (by omega)⟩
  · exact ⟨32, 31, by omega, by omega, by decide, by decide, key 31 rfl (by omega)⟩
  · exact ⟨64, 63, by omega, by omega, by decide, by decide, key 63 rfl (by omega)⟩
  · exact ⟨128, 127, by omega, by omega, by decide, by decide, key 127 rfl (by omega)⟩
  · exact ⟨0, 255, by omega, by omega, by decide, by decide, key 255 rfl (by omega)⟩
end Go.Proofs.Ytioghgnngdcicaa
