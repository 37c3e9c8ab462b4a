/- PaletteBits: the walk. -/
import Derived.Test.YtnjlklcggcfcgaaAw10
namespace Go.Proofs.Ytnjlklcggcfcgaa
set_option linter.unusedVariables false
open Go.ChangeShapes Go.WideShapes Go.ChangeAt Go.RowKit

theorem bitsV_cases (k : Nat) (hk : k ≤ 255) : (bitsV (1 + k) = 1 ∧ k ≤ 1) ∨ (bitsV (1 + k) = 2 ∧ 2 ≤ k ∧ k ≤ 3) ∨ (bitsV (1 + k) = 3 ∧ 4 ≤ k ∧ k ≤ 7) ∨ (bitsV (1 + k) = 4 ∧ 8 ≤ k ∧ k ≤ 15) ∨ (bitsV (1 + k) = 5 ∧ 16 ≤ k ∧ k ≤ 31) ∨ (bitsV (1 + k) = 6 ∧ 32 ≤ k ∧ k ≤ 63) ∨ (bitsV (1 + k) = 7 ∧ 64 ≤ k ∧ k ≤ 127) ∨ (bitsV (1 + k) = 8 ∧ 128 ≤ k ∧ k ≤ 255) := by
  unfold bitsV
  (repeat' split) <;> omega
set_option maxRecDepth 100000 in
set_option maxHeartbeats 2000000 in
theorem pbits_walk (n : Nat) (hn : n < 65536) (w : World) :
    Calls Try.prog 7 #[.int .u16 (n : Nat)] w fun e w' => e = .returned (.bool true) ∧ Below w.heap.size w w' := by
  go_enter Try.func7, Try.ntmps7
  go_wp2_with fail
  refine (awake10 _).mono ?_
  rintro e w1 ⟨rfl, hB⟩
  obtain ⟨k, hk⟩ : ∃ k : Nat, k = n % 256 := ⟨_, rfl⟩
  have hkI : (n : Int) % 256 = (k : Int) := by omega
  have hk2 : k ≤ 255 := by omega
  have HC := Lib.hid (bitsV_cases k hk2)
  clear hk
  go_wp2_with fail
  refine (bits_prog (1 + (k : Int)) (by unfold In64; omega) _).mono ?_
  rintro e w2 ⟨rfl, rfl⟩
  rcases HC.out with ⟨h, h1⟩ | ⟨h, h1, h2⟩ | ⟨h, h1, h2⟩ | ⟨h, h1, h2⟩ | ⟨h, h1, h2⟩ | ⟨h, h1, h2⟩ | ⟨h, h1, h2⟩ | ⟨h, h1, h2⟩
  all_goals
    rw [h]
    clear h HC
    go_wp2
    go_ret
    first
      | exact ⟨rfl, hB⟩
      | (refine ⟨?_, hB⟩
         show Ending.returned (.bool (decide _)) = _
         congr 2
         exact decide_eq_true (by omega))
end Go.Proofs.Ytnjlklcggcfcgaa
