/- adam.Bytes: the bytes of passes. Written by program (gen_bytes.py). -/
import Derived.Test.YtcnijaakcjkekaaBy
namespace Go.Proofs.Ytcnijaakcjkekaa
set_option linter.unusedVariables false
open Go.ChangeShapes Go.WideShapes Go.ChangeAt Go.RowKit

set_option maxRecDepth 100000 in
set_option maxHeartbeats 2000000 in
theorem bytes14 (v : Value) (l : List P6) (b : Int) (w : World) (hs : Sl w v 6 l.length (cellsL l)) :
    Calls Try.prog 14 #[v, .int .i64 b] w fun e w' => e = .returned (.int .i64 (bytesV l b)) ∧ Below w.heap.size w w' := by
  obtain ⟨_, A, cap, rfl, hcap, hmax, hcell⟩ := hs
  unfold maxLen at hmax
  by_cases hok : l.length ≤ 7 ∧ 0 ≤ b ∧ b ≤ 64
  · obtain ⟨h7, hb0, hb1⟩ := hok
    have hbb := (bitB_iff b).2 ⟨hb0, hb1⟩
    have HBB := Lib.hid hbb
    clear hbb
    go_enter Try.func14, Try.ntmps14
    go_wp2
    go_loopw [5, 21] (fun n i wr => ∃ k : Nat, k ≤ l.length ∧ i = .int .i64 k ∧ n = .int .i64 (sumB (l.take k) b) ∧ (l.take k).all okB = true ∧ Below w.heap.size w wr) (fun _ i _ => l.length - (intOf i).toNat)
    case atStart => exact ⟨0, by omega, rfl, rfl, rfl, Below.refl _ _⟩
    case round =>
      obtain ⟨k, hk, rfl, rfl, hall, hB⟩ := hrel
      by_cases hlt : k < l.length
      · obtain ⟨bk, off, rfl, hblt, hc⟩ := hcell (by omega)
        obtain ⟨p, hp⟩ : ∃ p, l[k]? = some p := ⟨l[k], List.getElem?_eq_getElem hlt⟩
        have hcs : ∀ j, j < 6 → wr.cell? ⟨bk, off + (k * 6 + j), none⟩ = (cells6 p)[j]? := fun j hj =>
          (hB.cell (p := ⟨bk, off + (k * 6 + j), none⟩) hblt).trans ((hc (k * 6 + j) (by omega)).trans (cellsL_get l k p hp j hj))
        have c0 : wr.cell? ⟨bk, off + k * 6, none⟩ = some (.int .i64 p.x) := hcs 0 (by omega)
        have c1 : wr.cell? ⟨bk, off + k * 6 + 1, none⟩ = some (.int .i64 p.y) := hcs 1 (by omega)
        have c2 : wr.cell? ⟨bk, off + k * 6 + 2, none⟩ = some (.int .i64 p.dx) := hcs 2 (by omega)
        have c3 : wr.cell? ⟨bk, off + k * 6 + 3, none⟩ = some (.int .i64 p.dy) := hcs 3 (by omega)
        have c4 : wr.cell? ⟨bk, off + k * 6 + 4, none⟩ = some (.int .i64 p.w) := hcs 4 (by omega)
        have c5 : wr.cell? ⟨bk, off + k * 6 + 5, none⟩ = some (.int .i64 p.h) := hcs 5 (by omega)
        have ck : (k : Int) < (l.length : Int) := by omega
        clear hcs hc hcell
        have hsb := sum_bd (l.take k) b hall
        have hlen : (l.take k).length ≤ 7 := by have := List.length_take_le k l; omega
        obtain ⟨hsb0, hsb1⟩ := hsb
        have hsz := hB.size
        cases ho : okB p
        · have hv : bytesV l b = 0 := by simp [bytesV, not_all l k p hp ho]
          have HV := Lib.hid hv
          clear hv hp
          cases hw1 : sideB p.w
          · have HN := Lib.hid hw1
            clear ho
            go_wp2_with (go_at_call 22; refine (side22 _ _).mono ?_; rintro e w' ⟨rfl, rfl⟩)
            go_ret
            exact ⟨ret_i HV.out.symm, hB.alloc hsz _⟩
          · have hh : sideB p.h = false := by simpa [okB, hw1] using ho
            have HN := Lib.hid hh
            clear ho
            go_wp2_with (go_at_call 22; refine (side22 _ _).mono ?_; rintro e w' ⟨rfl, rfl⟩)
            go_ret
            exact ⟨ret_i HV.out.symm, hB.alloc hsz _⟩
        · have hsn := sum_snoc l b k p hp
          have hal := all_snoc l k p hp hall ho
          have hpb := pass_bd p b ho
          have hsd : sideB p.w = true ∧ sideB p.h = true := by simpa [okB] using ho
          obtain ⟨hw1, hh1⟩ := hsd
          obtain ⟨bw0, bw1⟩ := (sideB_iff _).1 hw1
          obtain ⟨bh0, bh1⟩ := (sideB_iff _).1 hh1
          have HSN := Lib.hid hsn
          have HAL := Lib.hid hal
          clear hsn hal hp ho hall
          generalize hS : sumB (l.take k) b = S at *
          clear hS
          by_cases hgw : 0 < p.w
          · have hpe : passB p b = p.h * (1 + rowV p.w b) := by simp [passB, hgw]
            rw [hpe] at hpb
            obtain ⟨hp0, hp1⟩ := hpb
            have HPE := Lib.hid hpe
            clear hpe
            have hr := row_bd p.w b
            obtain ⟨hr0, hr1⟩ := hr
            go_wp2_with (go_at_call 22; refine (side22 _ _).mono ?_; rintro e w1 ⟨rfl, rfl⟩)
            have e1 : IntKind.i64.wrap (1 + rowV p.w b) = 1 + rowV p.w b := IntWalk.i64_in _ (by omega)
            have e2 : IntKind.i64.wrap (p.h * (1 + rowV p.w b)) = p.h * (1 + rowV p.w b) := IntWalk.i64_in _ (by omega)
            have e3 : IntKind.i64.wrap (S + p.h * (1 + rowV p.w b)) = S + p.h * (1 + rowV p.w b) := IntWalk.i64_in _ (by omega)
            go_quiet ((go_at_call 17; exact quiet_left (row17 _ _ _)))
            clear e1 e2 e3
            go_wp2
            go_roundw
            case rel => exact ⟨k + 1, by omega, by go_num, by rw [HSN.out, HPE.out], HAL.out, below_drewN (hB.alloc hsz _) _⟩
            case measure => simp [intOf]; omega
          · have hpe : passB p b = 0 := by simp [passB, hgw]
            have HPE := Lib.hid hpe
            clear hpe hpb
            go_wp2_with (go_at_call 22; refine (side22 _ _).mono ?_; rintro e w1 ⟨rfl, rfl⟩)
            go_roundw
            case rel => exact ⟨k + 1, by omega, by go_num, by rw [HSN.out, HPE.out]; simp, HAL.out, hB.alloc hsz _⟩
            case measure => simp [intOf]; omega
      · obtain rfl : k = l.length := by omega
        have hv : bytesV l b = sumB l b := by
          have ha : l.all okB = true := by simpa using hall
          simp [bytesV, h7, HBB.out, ha]
        have HV := Lib.hid hv
        clear hv
        go_wp2
        go_ret
        exact ⟨ret_i (by rw [HV.out]; simp), hB⟩
  · have hv : bytesV l b = 0 := by
      unfold bytesV
      rw [if_neg]
      rw [bitB_iff]
      omega
    have HV := Lib.hid hv
    clear hv
    have hcase : 7 < l.length ∨ (l.length ≤ 7 ∧ b < 0) ∨ (l.length ≤ 7 ∧ 0 ≤ b ∧ 64 < b) := by omega
    rcases hcase with h1 | ⟨h1, h2⟩ | ⟨h1, h2, h3⟩
    all_goals
      go_enter Try.func14, Try.ntmps14
      go_wp2
      go_ret
      exact ⟨ret_i HV.out.symm, Below.refl _ _⟩
end Go.Proofs.Ytcnijaakcjkekaa
