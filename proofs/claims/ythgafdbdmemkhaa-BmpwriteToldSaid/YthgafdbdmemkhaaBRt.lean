/- A file that Encode wrote, read by the reference. -/
import Derived.Test.YthgafdbdmemkhaaFilL
namespace Go.Proofs.Ythgafdbdmemkhaa
set_option linter.unusedVariables false
open Go.ChangeShapes Go.WideShapes Go.ChangeAt Go.RowKit

theorem byt_own {w : World} {B n : Nat} {A : Option Addr} {cap : Nat} {l : List Nat} (h : w.ownsRow B 5 1 (.slice A n cap) n (cellsB l)) : n ≤ cap ∧ cap ≤ maxLen ∧ Byt w A n (gd l) := by
  obtain ⟨hl, A', cap', he, h1, h2, h3⟩ := Sl.of_own h
  cases he
  refine ⟨h1, h2, fun hn => ?_⟩
  rw [cellsB_len] at hl
  obtain ⟨b, off, rfl, hlt, hc⟩ := h3 (by omega)
  refine ⟨b, off, rfl, hlt, fun j hj => ?_⟩
  rw [hc j (by omega)]
  have hj2 : j < l.length := by omega
  simp [cellsB, gd, hj2]
/-- A picture that BMP can hold, its sides as numbers. -/
theorem pic_nat {a b : Int} {n : Nat} {c : Nat → Nat} (h : fitsB a b n c 3 = true) : ∃ a' b' N : Nat, a = (a' : Int) ∧ b = (b' : Int) ∧ n = 4 * N ∧ a' * b' = N ∧ (1 ≤ a' ∧ a' ≤ 256) ∧ (1 ≤ b' ∧ b' ≤ 256) ∧ N ≤ 16384 ∧ sizeE a' b' = 0 ∧ ∀ i, i < 4 * N → c i % 257 = 0 := by
  have hm := fits_may h
  obtain ⟨hz, hn⟩ := may_ok hm
  obtain ⟨h1, h2, h3, h4, h5⟩ := size_ok hz
  obtain ⟨a', rfl⟩ := Int.eq_ofNat_of_zero_le (show 0 ≤ a by omega)
  obtain ⟨b', rfl⟩ := Int.eq_ofNat_of_zero_le (show 0 ≤ b by omega)
  have e1 : (a' : Int) * (b' : Int) = ((a' * b' : Nat) : Int) := by simp
  have e2 : 4 * (a' : Int) * (b' : Int) = 4 * ((a' * b' : Nat) : Int) := by rw [Int.mul_assoc, e1]
  have hb : bytesB n c = true := by simpa [fitsB, hm] using h
  obtain ⟨N, hN⟩ : ∃ N, N = a' * b' := ⟨_, rfl⟩
  rw [← hN] at e1 e2
  have hn4 : n = 4 * N := by omega
  refine ⟨a', b', N, rfl, rfl, hn4, hN.symm, ⟨by omega, by omega⟩, ⟨by omega, by omega⟩, by omega, hz, ?_⟩
  rw [← hn4]
  exact bytes_iff.1 hb
theorem fits_of {a b : Int} {n : Nat} {c : Nat → Nat} (hm : mayB a b n = true) (h : ∀ i, i < n → c i % 257 = 0) : fitsB a b n c 3 = true := by
  simp [fitsB, hm, bytes_t h]
theorem file_len_le (gt : Bool) (c : Nat → Nat) (a b N : Nat) (ha : 1 ≤ a ∧ a ≤ 256) (hb : b ≤ 256) (hab : a * b = N) (hN : N ≤ 16384) : (fileL gt c a b).length ≤ 8 * N + 122 ∧ 54 ≤ (fileL gt c a b).length := by
  obtain ⟨hw1, hw2, hw3, hw4, hw5⟩ := wide_bd gt a ha.2
  have h1 := wide_le gt a
  have h2 : wideH gt a * b ≤ (4 * a + 4) * b := Nat.mul_le_mul_right b h1
  have h3 : (4 * a + 4) * b = 4 * (a * b) + 4 * b := by rw [Nat.add_mul, Nat.mul_assoc]
  have h4 : 1 * b ≤ a * b := Nat.mul_le_mul_right b ha.1
  have h5 : 40 ≤ sizeH gt := by unfold sizeH; split <;> omega
  rw [fileL_len gt c a b ha.2]
  omega
theorem bmp_file (gt : Bool) (gb cap : Nat) (c : Nat → Nat) (hc : ∀ i, c i < 65536) (a b N : Nat) (hab : a * b = N) (ha : 1 ≤ a ∧ a ≤ 256) (hb : 1 ≤ b ∧ b ≤ 256) (hN : N ≤ 16384) (hz : sizeE a b = 0) (h257 : ∀ i, i < 4 * N → c i % 257 = 0) (hop : gt = !opqB N c) (B : Nat) (w : World)
    (hO : w.ownsRow B 5 1 (.slice (some ⟨gb, 0, none⟩) (fileL gt c a b).length cap) (fileL gt c a b).length (cellsB (fileL gt c a b))) :
    Calls Try.prog 8 #[.slice (some ⟨gb, 0, none⟩) (fileL gt c a b).length cap] w fun e w' => ∃ A' cap', e = .returned (.tuple #[.agg #[.int .i64 a, .int .i64 b, .slice A' (4 * N) cap'], .int .i64 0]) ∧ 4 * N ≤ cap' ∧ cap' ≤ maxLen ∧ Pix w' A' (4 * N) c ∧ Below w.heap.size w w' := by
  obtain ⟨h1, h2, h3⟩ := byt_own hO
  have hl := file_len_le gt c a b N ha hb.2 hab hN
  exact bmp_ref gt _ _ cap (gd (fileL gt c a b)) c a b N (file_head gt c hc a b ha.2 hb.2) (fun h => by subst h; exact file_mask c a b) hab ⟨fileL_len gt c a b ha.2, by omega⟩ h1 h2 ha hb hz (fun k x hk hx => file_px gt c a b N ha.2 hab h257 hop k x hk hx) w h3
end Go.Proofs.Ythgafdbdmemkhaa
