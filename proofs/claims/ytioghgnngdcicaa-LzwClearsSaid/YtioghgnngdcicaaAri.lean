/- The runs of the bit operations on numbers that are not below 0. -/
import Derived.Test.YtioghgnngdcicaaObj
import Derived.Laws.BitsAllLaws
import Derived.Laws.Bits128
import Derived.IntWalk
namespace Go.Proofs.Ytioghgnngdcicaa
set_option linter.unusedVariables false
open Go.ChangeShapes Go.WideShapes Go.ChangeAt Go.RowKit

theorem i64_or_nat (a b : Nat) (ha : a < 9223372036854775808) (hb : b < 9223372036854775808) : bits .or .i64 (a : Int) (b : Int) = ((a ||| b : Nat) : Int) := by
  have hx : a ||| b < 2 ^ 63 := Nat.or_lt_two_pow (by omega) (by omega)
  show IntKind.i64.wrap ((BitVec.ofInt 64 (a : Int) ||| BitVec.ofInt 64 (b : Int)).toNat : Int) = _
  rw [BitVec.toNat_or, ofInt_u64 a (by omega), ofInt_u64 b (by omega)]
  exact IntWalk.i64_in _ (by omega)
theorem i64_and1 (n : Int) : bits .and .i64 n 1 = n % 2 := by
  show IntKind.i64.wrap ((BitVec.ofInt 64 n &&& BitVec.ofInt 64 1).toNat : Int) = _
  rw [BitVec.toNat_and, show (BitVec.ofInt 64 1).toNat = 1 from rfl, nat_mask1, BitVec.toNat_ofInt]
  have h1 : (0 : Int) ≤ n % (2 ^ 64 : Nat) := Int.emod_nonneg _ (by omega)
  have h2 : ((n % ((2 ^ 64 : Nat) : Int)).toNat % 2 : Nat) = ((n % 2).toNat) := by omega
  rw [h2]
  rw [IntWalk.i64_in _ (by omega)]
  omega
theorem run_quo8 (p : Nat) (hp : p < 1000000000) (W : World) : (binOp BinOp.quo 3 (.int .i64 (p : Nat)) (.int .i64 8)).run Try.prog W = .ok (.int .i64 ((p / 8 : Nat) : Int)) W := by
  simp [binOp, go_sem]
  exact IntWalk.i64_in _ (by omega)
theorem run_rem8 (p : Nat) (hp : p < 1000000000) (W : World) : (binOp BinOp.rem 3 (.int .i64 (p : Nat)) (.int .i64 8)).run Try.prog W = .ok (.int .i64 ((p % 8 : Nat) : Int)) W := by
  simp [binOp, go_sem]
  exact Int.tmod_eq_emod_of_nonneg (by omega)
theorem run_shr8 (x p : Nat) (hx : x < 256) (hp : p < 8) (W : World) : (binOp .shr 5 (.int .u8 (x : Nat)) (.int .i64 (p : Nat))).run Try.prog W = .ok (.int .u8 ((x / 2 ^ p : Nat) : Int)) W := by
  simp [binOp, go_sem]
theorem pow_bd {x p : Nat} (hx : x < 16777216) (hp : p ≤ 24) : x * 2 ^ p < 281474976710656 := by
  have h : 2 ^ p ≤ 2 ^ 24 := Nat.pow_le_pow_right (by omega) hp
  calc x * 2 ^ p ≤ x * 2 ^ 24 := Nat.mul_le_mul_left _ h
    _ < 281474976710656 := by omega
theorem run_shl (x p : Nat) (hx : x < 16777216) (hp : p ≤ 24) (W : World) : (binOp .shl 3 (.int .i64 (x : Nat)) (.int .i64 (p : Nat))).run Try.prog W = .ok (.int .i64 ((x * 2 ^ p : Nat) : Int)) W := by
  have h := pow_bd hx hp
  simp [binOp, go_sem]
  have e : (x : Int) * 2 ^ p = ((x * 2 ^ p : Nat) : Int) := by simp
  rw [e]
  exact IntWalk.i64_in _ (by omega)
theorem run_or (x p : Nat) (hx : x < 281474976710656) (hp : p < 281474976710656) (W : World) : (binOp .or 3 (.int .i64 (x : Nat)) (.int .i64 (p : Nat))).run Try.prog W = .ok (.int .i64 ((x ||| p : Nat) : Int)) W := by
  simp [binOp, go_sem]
  exact i64_or_nat x p (by omega) (by omega)
theorem run_and1 (x : Nat) (hx : x < 256) (W : World) : (binOp .and 5 (.int .u8 (x : Nat)) (.int .u8 1)).run Try.prog W = .ok (.int .u8 ((x % 2 : Nat) : Int)) W := by
  simp [binOp, go_sem]
  have := u8_and_nat x 1 hx (by omega)
  rw [nat_mask1] at this
  simpa using this
theorem and1_eq (x p : Nat) (hx : x / 2 ^ p < 256) : wrap64 (bits .and .u8 ((x : Int) / 2 ^ p) 1) = ((x / 2 ^ p % 2 : Nat) : Int) := by
  have e : (x : Int) / 2 ^ p = ((x / 2 ^ p : Nat) : Int) := by simp
  rw [e]
  have := u8_and_nat (x / 2 ^ p) 1 hx (by omega)
  rw [nat_mask1] at this
  rw [show (1 : Int) = ((1 : Nat) : Int) from rfl, this]
  exact IntWalk.wrap64_in _ (by omega)
end Go.Proofs.Ytioghgnngdcicaa
