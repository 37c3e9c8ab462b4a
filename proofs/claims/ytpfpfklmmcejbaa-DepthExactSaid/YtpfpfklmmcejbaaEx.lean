/- DepthExact: each number of few bits is one of more bits: the walk, one theorem for each of the 32 ways (bits % 4 and bits / 4 % 8). Written by program (wip/l9/gen_exact.py). -/
import Derived.Test.YtpfpfklmmcejbaaA
import Derived.Laws.BitsAllLaws
import Derived.Laws.BitsLemmas
namespace Go.Proofs.Ytpfpfklmmcejbaa
open Go.ChangeShapes Go.WideShapes Go.ChangeAt Go.RowKit
theorem ofInt_i64 (a : Nat) (ha : a < 9223372036854775808) : (BitVec.ofInt 64 (a : Int)).toNat = a := by
  rw [BitVec.ofInt_natCast, BitVec.toNat_ofNat]; exact Nat.mod_eq_of_lt (by omega)
theorem i64_and_nat (a b : Nat) (ha : a < 9223372036854775808) (hb : b < 9223372036854775808) : bits .and .i64 (a : Int) (b : Int) = ((a &&& b : Nat) : Int) := by
  have hx : a &&& b < 2 ^ 63 := Nat.and_lt_two_pow _ (by omega)
  show IntKind.i64.wrap ((BitVec.ofInt 64 (a : Int) &&& BitVec.ofInt 64 (b : Int)).toNat : Int) = _
  rw [BitVec.toNat_and, ofInt_i64 a ha, ofInt_i64 b hb, IntKind.wrap_i64]
  omega
theorem and_mask (a : Int) (b : Nat) (n : Nat) (h0 : 0 ≤ a) (h1 : a < 9223372036854775808) (hb : b + 1 = 2 ^ n) (hb' : b < 9223372036854775808) : bits .and .i64 a (b : Int) = a % ((b : Int) + 1) := by
  obtain ⟨k, rfl⟩ := Int.eq_ofNat_of_zero_le h0
  have hb2 : b = 2 ^ n - 1 := by omega
  rw [i64_and_nat k b (by omega) hb']
  rw [hb2, Nat.and_two_pow_sub_one_eq_mod, ← hb]
  simp
theorem and_1 (a : Int) (h0 : 0 ≤ a) (h1 : a ≤ 255) : bits .and .i64 a 1 = a % 2 := and_mask a 1 1 h0 (by omega) rfl (by omega)
theorem and_3 (a : Int) (h0 : 0 ≤ a) (h1 : a ≤ 255) : bits .and .i64 a 3 = a % 4 := and_mask a 3 2 h0 (by omega) rfl (by omega)
theorem and_7 (a : Int) (h0 : 0 ≤ a) (h1 : a ≤ 255) : bits .and .i64 a 7 = a % 8 := and_mask a 7 3 h0 (by omega) rfl (by omega)
theorem and_15 (a : Int) (h0 : 0 ≤ a) (h1 : a ≤ 255) : bits .and .i64 a 15 = a % 16 := and_mask a 15 4 h0 (by omega) rfl (by omega)
theorem and_31 (a : Int) (h0 : 0 ≤ a) (h1 : a ≤ 255) : bits .and .i64 a 31 = a % 32 := and_mask a 31 5 h0 (by omega) rfl (by omega)
theorem and_63 (a : Int) (h0 : 0 ≤ a) (h1 : a ≤ 255) : bits .and .i64 a 63 = a % 64 := and_mask a 63 6 h0 (by omega) rfl (by omega)
theorem and_127 (a : Int) (h0 : 0 ≤ a) (h1 : a ≤ 255) : bits .and .i64 a 127 = a % 128 := and_mask a 127 7 h0 (by omega) rfl (by omega)
theorem and_255 (a : Int) (h0 : 0 ≤ a) (h1 : a ≤ 255) : bits .and .i64 a 255 = a % 256 := and_mask a 255 8 h0 (by omega) rfl (by omega)
theorem up_1 (k : Int) (h0 : 0 ≤ k) (h1 : k ≤ 1) : upV k 1 = k * 65535 := by
  have h2 : k < 2 := by omega
  simp [upV, upB, h0, h2]
theorem upb_1 (k : Int) (h0 : 0 ≤ k) (h1 : k ≤ 1) : upB k 1 = true := by
  have h2 : k < 2 := by omega
  simp [upB, h0, h2]
theorem upe_1 (k : Int) (h0 : 0 ≤ k) (h1 : k ≤ 1) : eightV (k * 65535) = k * 255 := by
  have h2 : k * 65535 % 257 = 0 := by omega
  simp [eightV, eightB, h2]; try omega
theorem upf_1 (k : Int) (h0 : 0 ≤ k) (h1 : k ≤ 1) : eightB (k * 65535) = true := by
  have h2 : k * 65535 % 257 = 0 := by omega
  simp [eightB, h2]
theorem up_2 (k : Int) (h0 : 0 ≤ k) (h1 : k ≤ 3) : upV k 2 = k * 21845 := by
  have h2 : k < 4 := by omega
  simp [upV, upB, h0, h2]
theorem upb_2 (k : Int) (h0 : 0 ≤ k) (h1 : k ≤ 3) : upB k 2 = true := by
  have h2 : k < 4 := by omega
  simp [upB, h0, h2]
theorem upe_2 (k : Int) (h0 : 0 ≤ k) (h1 : k ≤ 3) : eightV (k * 21845) = k * 85 := by
  have h2 : k * 21845 % 257 = 0 := by omega
  simp [eightV, eightB, h2]; try omega
theorem upf_2 (k : Int) (h0 : 0 ≤ k) (h1 : k ≤ 3) : eightB (k * 21845) = true := by
  have h2 : k * 21845 % 257 = 0 := by omega
  simp [eightB, h2]
theorem up_4 (k : Int) (h0 : 0 ≤ k) (h1 : k ≤ 15) : upV k 4 = k * 4369 := by
  have h2 : k < 16 := by omega
  simp [upV, upB, h0, h2]
theorem upb_4 (k : Int) (h0 : 0 ≤ k) (h1 : k ≤ 15) : upB k 4 = true := by
  have h2 : k < 16 := by omega
  simp [upB, h0, h2]
theorem upe_4 (k : Int) (h0 : 0 ≤ k) (h1 : k ≤ 15) : eightV (k * 4369) = k * 17 := by
  have h2 : k * 4369 % 257 = 0 := by omega
  simp [eightV, eightB, h2]; try omega
theorem upf_4 (k : Int) (h0 : 0 ≤ k) (h1 : k ≤ 15) : eightB (k * 4369) = true := by
  have h2 : k * 4369 % 257 = 0 := by omega
  simp [eightB, h2]
theorem up_8 (k : Int) (h0 : 0 ≤ k) (h1 : k ≤ 255) : upV k 8 = k * 257 := by
  have h2 : k < 256 := by omega
  simp [upV, upB, h0, h2]
theorem upb_8 (k : Int) (h0 : 0 ≤ k) (h1 : k ≤ 255) : upB k 8 = true := by
  have h2 : k < 256 := by omega
  simp [upB, h0, h2]
theorem upe_8 (k : Int) (h0 : 0 ≤ k) (h1 : k ≤ 255) : eightV (k * 257) = k * 1 := by
  have h2 : k * 257 % 257 = 0 := by omega
  simp [eightV, eightB, h2]; try omega
theorem upf_8 (k : Int) (h0 : 0 ≤ k) (h1 : k ≤ 255) : eightB (k * 257) = true := by
  have h2 : k * 257 % 257 = 0 := by omega
  simp [eightB, h2]
theorem ma_1 (k : Int) (h0 : 0 ≤ k) (h1 : k ≤ 1) : maskV k 1 = (k * 255 * 2 + 1) / 2 * 257 := by
  have h2 : k < 2 := by omega
  have h3 : 2 * k * 255 = k * 255 * 2 := by omega
  simp [maskV, maskB, h0, h2, h3]
theorem mab_1 (k : Int) (h0 : 0 ≤ k) (h1 : k ≤ 1) : maskB k 1 = true := by
  have h2 : k < 2 := by omega
  simp [maskB, h0, h2]
theorem mae_1 (k : Int) (h0 : 0 ≤ k) (h1 : k ≤ 1) : eightV ((k * 255 * 2 + 1) / 2 * 257) = (k * 255 * 2 + 1) / 2 := by
  simp [eightV, eightB]
theorem maf_1 (k : Int) (h0 : 0 ≤ k) (h1 : k ≤ 1) : eightB ((k * 255 * 2 + 1) / 2 * 257) = true := by
  simp [eightB]
theorem ma_2 (k : Int) (h0 : 0 ≤ k) (h1 : k ≤ 3) : maskV k 2 = (k * 255 * 2 + 3) / 6 * 257 := by
  have h2 : k < 4 := by omega
  have h3 : 2 * k * 255 = k * 255 * 2 := by omega
  simp [maskV, maskB, h0, h2, h3]
theorem mab_2 (k : Int) (h0 : 0 ≤ k) (h1 : k ≤ 3) : maskB k 2 = true := by
  have h2 : k < 4 := by omega
  simp [maskB, h0, h2]
theorem mae_2 (k : Int) (h0 : 0 ≤ k) (h1 : k ≤ 3) : eightV ((k * 255 * 2 + 3) / 6 * 257) = (k * 255 * 2 + 3) / 6 := by
  simp [eightV, eightB]
theorem maf_2 (k : Int) (h0 : 0 ≤ k) (h1 : k ≤ 3) : eightB ((k * 255 * 2 + 3) / 6 * 257) = true := by
  simp [eightB]
theorem ma_3 (k : Int) (h0 : 0 ≤ k) (h1 : k ≤ 7) : maskV k 3 = (k * 255 * 2 + 7) / 14 * 257 := by
  have h2 : k < 8 := by omega
  have h3 : 2 * k * 255 = k * 255 * 2 := by omega
  simp [maskV, maskB, h0, h2, h3]
theorem mab_3 (k : Int) (h0 : 0 ≤ k) (h1 : k ≤ 7) : maskB k 3 = true := by
  have h2 : k < 8 := by omega
  simp [maskB, h0, h2]
theorem mae_3 (k : Int) (h0 : 0 ≤ k) (h1 : k ≤ 7) : eightV ((k * 255 * 2 + 7) / 14 * 257) = (k * 255 * 2 + 7) / 14 := by
  simp [eightV, eightB]
theorem maf_3 (k : Int) (h0 : 0 ≤ k) (h1 : k ≤ 7) : eightB ((k * 255 * 2 + 7) / 14 * 257) = true := by
  simp [eightB]
theorem ma_4 (k : Int) (h0 : 0 ≤ k) (h1 : k ≤ 15) : maskV k 4 = (k * 255 * 2 + 15) / 30 * 257 := by
  have h2 : k < 16 := by omega
  have h3 : 2 * k * 255 = k * 255 * 2 := by omega
  simp [maskV, maskB, h0, h2, h3]
theorem mab_4 (k : Int) (h0 : 0 ≤ k) (h1 : k ≤ 15) : maskB k 4 = true := by
  have h2 : k < 16 := by omega
  simp [maskB, h0, h2]
theorem mae_4 (k : Int) (h0 : 0 ≤ k) (h1 : k ≤ 15) : eightV ((k * 255 * 2 + 15) / 30 * 257) = (k * 255 * 2 + 15) / 30 := by
  simp [eightV, eightB]
theorem maf_4 (k : Int) (h0 : 0 ≤ k) (h1 : k ≤ 15) : eightB ((k * 255 * 2 + 15) / 30 * 257) = true := by
  simp [eightB]
theorem ma_5 (k : Int) (h0 : 0 ≤ k) (h1 : k ≤ 31) : maskV k 5 = (k * 255 * 2 + 31) / 62 * 257 := by
  have h2 : k < 32 := by omega
  have h3 : 2 * k * 255 = k * 255 * 2 := by omega
  simp [maskV, maskB, h0, h2, h3]
theorem mab_5 (k : Int) (h0 : 0 ≤ k) (h1 : k ≤ 31) : maskB k 5 = true := by
  have h2 : k < 32 := by omega
  simp [maskB, h0, h2]
theorem mae_5 (k : Int) (h0 : 0 ≤ k) (h1 : k ≤ 31) : eightV ((k * 255 * 2 + 31) / 62 * 257) = (k * 255 * 2 + 31) / 62 := by
  simp [eightV, eightB]
theorem maf_5 (k : Int) (h0 : 0 ≤ k) (h1 : k ≤ 31) : eightB ((k * 255 * 2 + 31) / 62 * 257) = true := by
  simp [eightB]
theorem ma_6 (k : Int) (h0 : 0 ≤ k) (h1 : k ≤ 63) : maskV k 6 = (k * 255 * 2 + 63) / 126 * 257 := by
  have h2 : k < 64 := by omega
  have h3 : 2 * k * 255 = k * 255 * 2 := by omega
  simp [maskV, maskB, h0, h2, h3]
theorem mab_6 (k : Int) (h0 : 0 ≤ k) (h1 : k ≤ 63) : maskB k 6 = true := by
  have h2 : k < 64 := by omega
  simp [maskB, h0, h2]
theorem mae_6 (k : Int) (h0 : 0 ≤ k) (h1 : k ≤ 63) : eightV ((k * 255 * 2 + 63) / 126 * 257) = (k * 255 * 2 + 63) / 126 := by
  simp [eightV, eightB]
theorem maf_6 (k : Int) (h0 : 0 ≤ k) (h1 : k ≤ 63) : eightB ((k * 255 * 2 + 63) / 126 * 257) = true := by
  simp [eightB]
theorem ma_7 (k : Int) (h0 : 0 ≤ k) (h1 : k ≤ 127) : maskV k 7 = (k * 255 * 2 + 127) / 254 * 257 := by
  have h2 : k < 128 := by omega
  have h3 : 2 * k * 255 = k * 255 * 2 := by omega
  simp [maskV, maskB, h0, h2, h3]
theorem mab_7 (k : Int) (h0 : 0 ≤ k) (h1 : k ≤ 127) : maskB k 7 = true := by
  have h2 : k < 128 := by omega
  simp [maskB, h0, h2]
theorem mae_7 (k : Int) (h0 : 0 ≤ k) (h1 : k ≤ 127) : eightV ((k * 255 * 2 + 127) / 254 * 257) = (k * 255 * 2 + 127) / 254 := by
  simp [eightV, eightB]
theorem maf_7 (k : Int) (h0 : 0 ≤ k) (h1 : k ≤ 127) : eightB ((k * 255 * 2 + 127) / 254 * 257) = true := by
  simp [eightB]
theorem ma_8 (k : Int) (h0 : 0 ≤ k) (h1 : k ≤ 255) : maskV k 8 = (k * 255 * 2 + 255) / 510 * 257 := by
  have h2 : k < 256 := by omega
  have h3 : 2 * k * 255 = k * 255 * 2 := by omega
  simp [maskV, maskB, h0, h2, h3]
theorem mab_8 (k : Int) (h0 : 0 ≤ k) (h1 : k ≤ 255) : maskB k 8 = true := by
  have h2 : k < 256 := by omega
  simp [maskB, h0, h2]
theorem mae_8 (k : Int) (h0 : 0 ≤ k) (h1 : k ≤ 255) : eightV ((k * 255 * 2 + 255) / 510 * 257) = (k * 255 * 2 + 255) / 510 := by
  simp [eightV, eightB]
theorem maf_8 (k : Int) (h0 : 0 ≤ k) (h1 : k ≤ 255) : eightB ((k * 255 * 2 + 255) / 510 * 257) = true := by
  simp [eightB]
end Go.Proofs.Ytpfpfklmmcejbaa
