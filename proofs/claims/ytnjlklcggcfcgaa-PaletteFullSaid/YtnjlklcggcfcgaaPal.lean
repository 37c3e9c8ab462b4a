/- palette: Bits of both; words for what Draw and Make leave. -/
import Derived.Test.YtnjlklcggcfcgaaCopy
import Derived.Test.YtnjlklcggcfcgaaEq
namespace Go.Proofs.Ytnjlklcggcfcgaa
set_option linter.unusedVariables false
open Go.ChangeShapes Go.WideShapes Go.ChangeAt Go.RowKit

def bitsV (n : Int) : Int := if n ≤ 2 then 1 else if n ≤ 4 then 2 else if n ≤ 8 then 3 else if n ≤ 16 then 4 else if n ≤ 32 then 5 else if n ≤ 64 then 6 else if n ≤ 128 then 7 else 8
def pw (k : Nat) : Int := if k = 1 then 2 else if k = 2 then 4 else if k = 3 then 8 else if k = 4 then 16 else if k = 5 then 32 else if k = 6 then 64 else if k = 7 then 128 else 256
theorem bitsV_exit {n : Int} {k : Nat} (h1 : 1 ≤ k) (h8 : k ≤ 8) (hl : k = 1 ∨ pw (k - 1) < n) (he : k = 8 ∨ n ≤ pw k) : bitsV n = k := by
  have hk : k = 1 ∨ k = 2 ∨ k = 3 ∨ k = 4 ∨ k = 5 ∨ k = 6 ∨ k = 7 ∨ k = 8 := by omega
  rcases hk with rfl | rfl | rfl | rfl | rfl | rfl | rfl | rfl <;> simp [pw] at hl he <;> unfold bitsV <;> (repeat' split) <;> omega
set_option maxHeartbeats 1000000 in
theorem bits_prog (n : Int) (hn : In64 n) (w : World) : Calls Try.prog 13 #[.int .i64 n] w fun e w' => e = .returned (.int .i64 (bitsV n)) ∧ w = w' := by
  go_enter Try.func13, Try.ntmps13
  go_wp2_with fail
  go_loop [3] (fun b => ∃ k : Nat, 1 ≤ k ∧ k ≤ 8 ∧ b = .int .i64 k ∧ (k = 1 ∨ pw (k - 1) < n)) (fun b => 9 - (intOf b).toNat)
  case atStart => exact ⟨1, by omega, by omega, rfl, .inl rfl⟩
  case round =>
    obtain ⟨k, h1, h8, rfl, hl⟩ := hrel
    have HL := Lib.hid hl
    clear hl
    have hk : k = 1 ∨ k = 2 ∨ k = 3 ∨ k = 4 ∨ k = 5 ∨ k = 6 ∨ k = 7 ∨ k = 8 := by omega
    by_cases hp : pw k < n
    · rcases hk with rfl | rfl | rfl | rfl | rfl | rfl | rfl | rfl
      case inr.inr.inr.inr.inr.inr.inr =>
        have HE := Lib.hid (bitsV_exit h1 h8 HL.out (.inl rfl))
        go_wp2_with fail
        go_ret
        exact ⟨ret_i HE.out.symm, rfl⟩
      all_goals
        have HP := Lib.hid hp
        simp only [pw] at hp
        simp at hp
        go_wp2_with fail
        go_round
        case rel => first | exact ⟨2, by omega, by omega, rfl, .inr HP.out⟩ | exact ⟨3, by omega, by omega, rfl, .inr HP.out⟩ | exact ⟨4, by omega, by omega, rfl, .inr HP.out⟩ | exact ⟨5, by omega, by omega, rfl, .inr HP.out⟩ | exact ⟨6, by omega, by omega, rfl, .inr HP.out⟩ | exact ⟨7, by omega, by omega, rfl, .inr HP.out⟩ | exact ⟨8, by omega, by omega, rfl, .inr HP.out⟩
        case measure => simp [intOf]
    · have HE := Lib.hid (bitsV_exit h1 h8 HL.out (.inr (by omega)))
      rcases hk with rfl | rfl | rfl | rfl | rfl | rfl | rfl | rfl
      case inr.inr.inr.inr.inr.inr.inr =>
        clear hp
        go_wp2_with fail
        go_ret
        exact ⟨ret_i HE.out.symm, rfl⟩
      all_goals
        simp [pw] at hp
        go_wp2_with fail
        go_ret
        exact ⟨ret_i HE.out.symm, rfl⟩
set_option maxHeartbeats 1000000 in
theorem bits_ref (n : Int) (hn : In64 n) (w : World) : Calls Try.prog 14 #[.int .i64 n] w fun e w' => e = .returned (.int .i64 (bitsV n)) ∧ w = w' := by
  go_enter Try.func14, Try.ntmps14
  go_wp2_with fail
  go_loop [3] (fun b => ∃ k : Nat, 1 ≤ k ∧ k ≤ 8 ∧ b = .int .i64 k ∧ (k = 1 ∨ pw (k - 1) < n)) (fun b => 9 - (intOf b).toNat)
  case atStart => exact ⟨1, by omega, by omega, rfl, .inl rfl⟩
  case round =>
    obtain ⟨k, h1, h8, rfl, hl⟩ := hrel
    have HL := Lib.hid hl
    clear hl
    have hk : k = 1 ∨ k = 2 ∨ k = 3 ∨ k = 4 ∨ k = 5 ∨ k = 6 ∨ k = 7 ∨ k = 8 := by omega
    by_cases hp : pw k < n
    · rcases hk with rfl | rfl | rfl | rfl | rfl | rfl | rfl | rfl
      case inr.inr.inr.inr.inr.inr.inr =>
        have HE := Lib.hid (bitsV_exit h1 h8 HL.out (.inl rfl))
        go_wp2_with fail
        go_ret
        exact ⟨ret_i HE.out.symm, rfl⟩
      all_goals
        have HP := Lib.hid hp
        simp only [pw] at hp
        simp at hp
        go_wp2_with fail
        go_round
        case rel => first | exact ⟨2, by omega, by omega, rfl, .inr HP.out⟩ | exact ⟨3, by omega, by omega, rfl, .inr HP.out⟩ | exact ⟨4, by omega, by omega, rfl, .inr HP.out⟩ | exact ⟨5, by omega, by omega, rfl, .inr HP.out⟩ | exact ⟨6, by omega, by omega, rfl, .inr HP.out⟩ | exact ⟨7, by omega, by omega, rfl, .inr HP.out⟩ | exact ⟨8, by omega, by omega, rfl, .inr HP.out⟩
        case measure => simp [intOf]
    · have HE := Lib.hid (bitsV_exit h1 h8 HL.out (.inr (by omega)))
      rcases hk with rfl | rfl | rfl | rfl | rfl | rfl | rfl | rfl
      case inr.inr.inr.inr.inr.inr.inr =>
        clear hp
        go_wp2_with fail
        go_ret
        exact ⟨ret_i HE.out.symm, rfl⟩
      all_goals
        simp [pw] at hp
        go_wp2_with fail
        go_ret
        exact ⟨ret_i HE.out.symm, rfl⟩
end Go.Proofs.Ytnjlklcggcfcgaa
