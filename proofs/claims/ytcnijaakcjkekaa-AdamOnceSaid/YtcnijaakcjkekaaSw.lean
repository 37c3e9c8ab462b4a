/- AdamSums: the walk. -/
import Derived.Test.YtcnijaakcjkekaaSu
namespace Go.Proofs.Ytcnijaakcjkekaa
set_option linter.unusedVariables false
open Go.ChangeShapes Go.WideShapes Go.ChangeAt Go.RowKit

/-- What is known of the passes of sides up to 64. -/
structure Fine (l : List P6) (A B N : Int) : Prop where
  len : l.length ≤ 7
  mem : ∀ p ∈ l, 1 ≤ p.w ∧ p.w ≤ 64 ∧ 1 ≤ p.h ∧ p.h ≤ 64
  pix : sumF pixF l = A * B
  row : B ≤ sumF rowF l
  byt : A * B * N ≤ 8 * (sumF (byteF N) l - sumF rowF l)
  val : bytesV l N = sumF (byteF N) l
theorem size_64 (A B : Int) (a0 : 1 ≤ A) (a1 : A ≤ 64) (b0 : 1 ≤ B) (b1 : B ≤ 64) : sizeE A B = 0 := by
  unfold sizeE
  rw [if_neg (by omega), if_neg]
  have h : 256 ≤ 16384 / B := by
    rw [Int.le_ediv_iff_mul_le (by omega)]
    omega
  omega
theorem fine (A B N : Int) (a0 : 1 ≤ A) (a1 : A ≤ 64) (b0 : 1 ≤ B) (b1 : B ≤ 64) (n0 : 1 ≤ N) (n1 : N ≤ 64) : Fine (passesL A B) A B N := by
  have hl : passesL A B = (sevenL A B).filter good6 := by rw [passesL, if_pos (size_64 A B a0 a1 b0 b1)]
  rw [hl]
  have hlen : ((sevenL A B).filter good6).length ≤ 7 := by
    have := List.length_filter_le good6 (sevenL A B)
    simp [sevenL] at this ⊢
    omega
  have hmem : ∀ p ∈ (sevenL A B).filter good6, 1 ≤ p.w ∧ p.w ≤ 64 ∧ 1 ≤ p.h ∧ p.h ≤ 64 := fun p hp => by
    have := seven_mem A B a0 b0 p hp
    omega
  refine ⟨hlen, hmem, pix_sum A B a0 b0, row_sum A B a0 b0, byte_sum A B N a0 a1 b0 b1 (by omega) n1, ?_⟩
  unfold bytesV
  rw [if_pos]
  · unfold sumB
    exact sumF_congr _ _ _ fun p hp => by
      have := hmem p hp
      unfold passB byteF
      rw [if_pos (by omega)]
  · refine ⟨hlen, (bitB_iff N).2 ⟨by omega, by omega⟩, ?_⟩
    rw [List.all_eq_true]
    intro p hp
    have := hmem p hp
    simp only [okB, Bool.and_eq_true]
    exact ⟨(sideB_iff _).2 ⟨by omega, by omega⟩, (sideB_iff _).2 ⟨by omega, by omega⟩⟩
theorem whole_bytes (A B N : Int) (a0 : 1 ≤ A) (a1 : A ≤ 64) (b0 : 1 ≤ B) (b1 : B ≤ 64) (n0 : 1 ≤ N) (n1 : N ≤ 64) : bytesV (wholeL A B) N = B * (1 + (A * N + 7) / 8) := by
  have hl : wholeL A B = [ofL 0 0 1 1 A B] := by rw [wholeL, if_pos (size_64 A B a0 a1 b0 b1)]
  rw [hl]
  have s1 : sideB A = true := (sideB_iff _).2 ⟨by omega, by omega⟩
  have s2 : sideB B = true := (sideB_iff _).2 ⟨by omega, by omega⟩
  have s3 : bitB N = true := (bitB_iff _).2 ⟨by omega, by omega⟩
  have hA : 0 < A := by omega
  simp [bytesV, sumB, passB, okB, ofL, many01 A a0, many01 B b0, s1, s2, s3, rowV, hA]
theorem byteF_bd (N : Int) (p : P6) (h : 1 ≤ p.w ∧ p.w ≤ 64 ∧ 1 ≤ p.h ∧ p.h ≤ 64) : 0 ≤ byteF N p ∧ byteF N p ≤ 200000 := by
  have hr := row_bd p.w N
  have := mul_bd p.h (1 + rowV p.w N) 64 2049 (by omega) h.2.2.2 (by omega) (by omega)
  unfold byteF
  omega
theorem pixF_bd (p : P6) (h : 1 ≤ p.w ∧ p.w ≤ 64 ∧ 1 ≤ p.h ∧ p.h ≤ 64) : 0 ≤ pixF p ∧ pixF p ≤ 4096 := by
  have := mul_bd p.w p.h 64 64 (by omega) h.2.1 (by omega) h.2.2.2
  unfold pixF
  omega
theorem mem_take {l : List P6} {k : Nat} {p : P6} (h : p ∈ l.take k) : p ∈ l := List.mem_of_mem_take h

set_option maxRecDepth 100000 in
set_option maxHeartbeats 4000000 in
theorem adamSums_walk (x y z : Int) (x0 : 0 ≤ x) (x1 : x ≤ 255) (y0 : 0 ≤ y) (y1 : y ≤ 255) (z0 : 0 ≤ z) (z1 : z ≤ 255) (w : World) :
    Calls Try.prog 6 #[.int .u8 x, .int .u8 y, .int .u8 z] w fun e w' => e = .returned (.bool true) ∧ Below w.heap.size w w' := by
  obtain ⟨A, hA⟩ : ∃ A, 1 + x % 64 = A := ⟨_, rfl⟩
  obtain ⟨B, hB'⟩ : ∃ B, 1 + y % 64 = B := ⟨_, rfl⟩
  obtain ⟨N, hN⟩ : ∃ N, 1 + z % 64 = N := ⟨_, rfl⟩
  have a0 : 1 ≤ A := by omega
  have a1 : A ≤ 64 := by omega
  have b0 : 1 ≤ B := by omega
  have b1 : B ≤ 64 := by omega
  have n0 : 1 ≤ N := by omega
  have n1 : N ≤ 64 := by omega
  have F := fine A B N a0 a1 b0 b1 n0 n1
  have hW := whole_bytes A B N a0 a1 b0 b1 n0 n1
  have hWl : (wholeL A B).length ≤ 20 := by unfold wholeL; split <;> simp
  obtain ⟨l, hl⟩ : ∃ l, passesL A B = l := ⟨_, rfl⟩
  rw [hl] at F
  have HL := Lib.hid hl
  have HW := Lib.hid hW
  clear hl hW
  go_enter Try.func6, Try.ntmps6
  go_wp2_with fail
  refine (awake7 _).mono ?_
  rintro e w1 ⟨rfl, hB1⟩
  go_wp2_with fail
  have HA := Lib.hid hA
  have HB := Lib.hid hB'
  have HN := Lib.hid hN
  clear hA hB' hN
  refine (passes10 A B ⟨by omega, by omega⟩ ⟨by omega, by omega⟩ _).mono ?_
  rintro e w2 ⟨v, rfl, hown, hB2⟩
  rw [HL.out] at hown
  have hA2 := hB1.trans (hB2.mono hB1.size)
  have hsl := Sl.of_own hown
  have HS := Lib.hid hsl
  clear hown hB1 hB2
  obtain ⟨_, ad, cap, rfl, hcap, hmax, hcell⟩ := hsl
  unfold maxLen at hmax
  have hlen := F.len
  go_wp2_with fail
  go_loopw [11, 12, 13, 14] (fun s1 s2 s3 i wr => ∃ k : Nat, k ≤ l.length ∧ i = .int .i64 k ∧ s1 = .int .i64 (sumF pixF (l.take k)) ∧ s2 = .int .i64 (sumF rowF (l.take k)) ∧ s3 = .int .i64 (sumF (byteF N) (l.take k)) ∧ Below w2.heap.size w2 wr) (fun _ _ _ i _ => l.length - (intOf i).toNat)
  case atStart => exact ⟨0, by omega, rfl, rfl, rfl, rfl, Below.refl _ _⟩
  case round =>
    obtain ⟨k, hk, rfl, rfl, rfl, rfl, hB⟩ := hrel
    have hlk : ((l.take k).length : Int) ≤ 7 := by have := List.length_take_le k l; omega
    have hpb := sumF_bd pixF 4096 (l.take k) (fun p hp => pixF_bd p (F.mem p (mem_take hp))) (by omega)
    have hrb := sumF_bd rowF 64 (l.take k) (fun p hp => by have := F.mem p (mem_take hp); unfold rowF; omega) (by omega)
    have hbb := sumF_bd (byteF N) 200000 (l.take k) (fun p hp => byteF_bd N p (F.mem p (mem_take hp))) (by omega)
    by_cases hlt : k < l.length
    · obtain ⟨b, off, rfl, hblt, hc⟩ := hcell (by omega)
      obtain ⟨p, hp⟩ : ∃ p, l[k]? = some p := ⟨l[k], List.getElem?_eq_getElem hlt⟩
      have hcs : ∀ j, j < 6 → wr.cell? ⟨b, off + (k * 6 + j), none⟩ = (cells6 p)[j]? := fun j hj =>
        (hB.cell (p := ⟨b, off + (k * 6 + j), none⟩) hblt).trans ((hc (k * 6 + j) (by omega)).trans (cellsL_get l k p hp j hj))
      have c4 : wr.cell? ⟨b, off + k * 6 + 4, none⟩ = some (.int .i64 p.w) := hcs 4 (by omega)
      have c5 : wr.cell? ⟨b, off + k * 6 + 5, none⟩ = some (.int .i64 p.h) := hcs 5 (by omega)
      have ck : (k : Int) < (l.length : Int) := by omega
      have hm := F.mem p (List.mem_of_getElem? hp)
      have hf1 := pixF_bd p hm
      have hf2 := byteF_bd N p hm
      have hr := row_bd p.w N
      have S1 := Lib.hid (sumF_snoc pixF l k p hp)
      have S2 := Lib.hid (sumF_snoc rowF l k p hp)
      have S3 := Lib.hid (sumF_snoc (byteF N) l k p hp)
      clear hcs hc hcell hp
      unfold pixF at hf1
      unfold byteF at hf2
      generalize hP : sumF pixF (l.take k) = P at *
      generalize hR : sumF rowF (l.take k) = R at *
      generalize hQ : sumF (byteF N) (l.take k) = Q at *
      clear hP hR hQ
      go_wp2_with fail
      have e1 : IntKind.i64.wrap (p.w * p.h) = p.w * p.h := IntWalk.i64_in _ (by omega)
      have e2 : IntKind.i64.wrap (P + p.w * p.h) = P + p.w * p.h := IntWalk.i64_in _ (by omega)
      go_quiet (fail)
      clear e1 e2
      have d4 : (wr.drewN nq).cell? ⟨b, off + k * 6 + 4, none⟩ = some (.int .i64 p.w) := c4
      have d5 : (wr.drewN nq).cell? ⟨b, off + k * 6 + 5, none⟩ = some (.int .i64 p.h) := c5
      have hBd := below_drewN hB nq
      clear c4 c5 hB
      generalize wr.drewN nq = wd at *
      go_wp2_with fail
      have e1 : IntKind.i64.wrap (1 + rowV p.w N) = 1 + rowV p.w N := IntWalk.i64_in _ (by omega)
      have e2 : IntKind.i64.wrap (p.h * (1 + rowV p.w N)) = p.h * (1 + rowV p.w N) := IntWalk.i64_in _ (by omega)
      have e3 : IntKind.i64.wrap (Q + p.h * (1 + rowV p.w N)) = Q + p.h * (1 + rowV p.w N) := IntWalk.i64_in _ (by omega)
      go_quiet ((go_at_call 17; exact quiet_left (row17 _ _ _)))
      clear e1 e2 e3
      go_wp2
      go_roundw
      case rel => exact ⟨k + 1, by omega, by go_num, by rw [S1.out]; rfl, by rw [S2.out]; rfl, by rw [S3.out]; rfl, below_drewN hBd _⟩
      case measure => simp [intOf]; omega
    · obtain rfl : k = l.length := by omega
      simp only [List.take_length] at hpb hrb hbb ⊢
      have f1 := F.pix
      have f2 := F.row
      have f3 := F.byt
      have f4 := F.val
      have HS2 := Lib.hid (HS.out.below hB)
      have m1 := mul_bd A B 64 64 (by omega) a1 (by omega) b1
      have m2 := mul_bd (A * B) N 4096 64 m1.1 m1.2 (by omega) n1
      have m3 := mul_bd A N 64 64 (by omega) a1 (by omega) n1
      have m4 := mul_bd B (1 + (A * N + 7) / 8) 64 600 (by omega) b1 (by omega) (by omega)
      obtain ⟨m10, m11⟩ := m1
      obtain ⟨m20, m21⟩ := m2
      obtain ⟨m30, m31⟩ := m3
      obtain ⟨m40, m41⟩ := m4
      have hA3 := hA2.trans (hB.mono hA2.size)
      clear hB hA2 HS F hcell
      have F4 := Lib.hid f4
      generalize hR : sumF rowF l = R at *
      generalize hQ : sumF (byteF N) l = Q at *
      clear hR f4
      have g1 : (sumF pixF l == A * B) = true := by rw [f1]; simp
      have G1 := Lib.hid f1
      clear f1
      generalize hP : sumF pixF l = P at *
      clear hP
      go_wp2_with fail
      refine (bytes14 _ l N _ HS2.out).mono ?_
      rintro e w4 ⟨rfl, hB4⟩
      have hA4 := hA3.trans (hB4.mono hA3.size)
      clear hA3 hB4 HS2
      have f4 := F4.out
      go_wp2_with fail
      refine (whole12 A B ⟨by omega, by omega⟩ ⟨by omega, by omega⟩ _).mono ?_
      rintro e w5 ⟨v5, rfl, hown5, hB5⟩
      have hA5 := hA4.trans (hB5.mono hA4.size)
      have HS5 := Lib.hid (Sl.of_own hown5)
      clear hown5 hA4 hB5
      go_wp2_with fail
      refine (bytes14 _ (wholeL A B) N _ HS5.out).mono ?_
      rintro e w6 ⟨rfl, hB6⟩
      have hA6 := hA5.trans (hB6.mono hA5.size)
      clear hA5 hB6 HS5
      have h6 := HW.out
      go_wp2_with fail
      go_ret
      exact ⟨rfl, hA6⟩
end Go.Proofs.Ytcnijaakcjkekaa
