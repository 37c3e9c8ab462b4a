/- The law's awake; the walks of AdamPasses and AdamBytes. -/
import Derived.Test.YtcnijaakcjkekaaB14
import Derived.Test.YtcnijaakcjkekaaB16
import Derived.Test.YtcnijaakcjkekaaBk
namespace Go.Proofs.Ytcnijaakcjkekaa
set_option linter.unusedVariables false
open Go.ChangeShapes Go.WideShapes Go.ChangeAt Go.RowKit

set_option maxRecDepth 100000 in
set_option maxHeartbeats 1000000 in
theorem awake7 (w : World) : Calls Try.prog 7 #[] w fun e w' => e = .returned (.bool true) ∧ Below w.heap.size w w' := by
  have hl : passesL 1 1 = [⟨0, 0, 8, 8, 1, 1⟩] := by kernel_rfl
  have hl2 : wholeL 3 2 = [ofL 0 0 1 1 3 2] := by kernel_rfl
  have hb : bytesV [⟨0, 0, 8, 8, 1, 1⟩] 8 = 2 := by decide
  have hr : rowV 9 1 = 2 := by decide
  have HL := Lib.hid hl
  have HL2 := Lib.hid hl2
  clear hl hl2
  go_enter Try.func7, Try.ntmps7
  go_wp2_with fail
  refine (passes10 1 1 ⟨by omega, by omega⟩ ⟨by omega, by omega⟩ _).mono ?_
  rintro e w1 ⟨v, rfl, hown, hB⟩
  rw [HL.out] at hown
  have hsl := Sl.of_own hown
  have hsl2 := hsl
  obtain ⟨_, A, cap, rfl, hcap, hmax, hcell⟩ := hsl2
  obtain ⟨b, off, rfl, hblt, hc⟩ := hcell (by simp)
  have c0 : w1.cell? ⟨b, off, none⟩ = some (.int .i64 0) := hc 0 (by simp)
  have c1 : w1.cell? ⟨b, off + 1, none⟩ = some (.int .i64 0) := hc 1 (by simp)
  have c2 : w1.cell? ⟨b, off + 2, none⟩ = some (.int .i64 8) := hc 2 (by simp)
  have c3 : w1.cell? ⟨b, off + 3, none⟩ = some (.int .i64 8) := hc 3 (by simp)
  have c4 : w1.cell? ⟨b, off + 4, none⟩ = some (.int .i64 1) := hc 4 (by simp)
  have c5 : w1.cell? ⟨b, off + 5, none⟩ = some (.int .i64 1) := hc 5 (by simp)
  have HS := Lib.hid hsl
  clear hsl hown hc hcell hcap hmax
  go_wp2_with (go_at_call 17; refine (row17 _ _ _).mono ?_; rintro e w' ⟨rfl, rfl⟩)
  refine (bytes14 _ [⟨0, 0, 8, 8, 1, 1⟩] 8 _ HS.out).mono ?_
  rintro e w2 ⟨rfl, hB2⟩
  clear c0 c1 c2 c3 c4 c5
  go_wp2_with fail
  refine (whole12 3 2 ⟨by omega, by omega⟩ ⟨by omega, by omega⟩ _).mono ?_
  rintro e w3 ⟨v3, rfl, hown3, hB3⟩
  rw [HL2.out] at hown3
  obtain ⟨_, A3, cap3, rfl, _, _, _⟩ := Sl.of_own hown3
  have hB4 := hB.trans (hB2.mono hB.size)
  have hB5 := hB4.trans (hB3.mono hB4.size)
  clear hown3 hB hB2 hB3 hB4
  go_wp2
  go_ret
  exact ⟨rfl, hB5⟩

set_option maxRecDepth 100000 in
set_option maxHeartbeats 1000000 in
theorem adamPasses_walk (a b : Int) (ha : In64 a) (hb : In64 b) (w : World) : Calls Try.prog 3 #[.int .i64 a, .int .i64 b] w fun e w' => e = .returned (.bool true) ∧ Below w.heap.size w w' := by
  have hl7 : (passesL a b).length ≤ 20 := by
    unfold passesL
    split
    · have := List.length_filter_le good6 (sevenL a b)
      simp [sevenL] at this ⊢
      omega
    · simp
  have hl1 : (wholeL a b).length ≤ 20 := by
    unfold wholeL
    split <;> simp
  go_enter Try.func3, Try.ntmps3
  go_wp2_with fail
  refine (awake7 _).mono ?_
  rintro e w1 ⟨rfl, hB1⟩
  go_wp2_with fail
  refine (passes10 a b ha hb _).mono ?_
  rintro e w2 ⟨v2, rfl, hown2, hB2⟩
  have hA2 := hB1.trans (hB2.mono hB1.size)
  have HS2 := Lib.hid (Sl.of_own hown2)
  clear hown2 hB1 hB2
  go_wp2_with fail
  refine (model9 v2 _ hl7 _ HS2.out).mono ?_
  rintro e w3 ⟨v3, rfl, hown3, hB3⟩
  have hA3 := hA2.trans (hB3.mono hA2.size)
  have HS3 := Lib.hid (Sl.of_own hown3)
  clear hown3 HS2 hA2 hB3
  go_wp2_with fail
  refine (passes11 a b ha hb _).mono ?_
  rintro e w4 ⟨v4, rfl, hown4, hB4⟩
  have hA4 := hA3.trans (hB4.mono hA3.size)
  have HS4 := Lib.hid (Sl.of_own hown4)
  have HS3' := Lib.hid (HS3.out.below hB4)
  clear hown4 hA3 hB4 HS3
  go_wp2_with fail
  refine (same8 v3 v4 _ _ HS3'.out HS4.out).mono ?_
  rintro e w5 ⟨rfl, hB5⟩
  have hA5 := hA4.trans (hB5.mono hA4.size)
  clear hA4 hB5 HS3' HS4
  go_wp2_with fail
  refine (whole12 a b ha hb _).mono ?_
  rintro e w6 ⟨v6, rfl, hown6, hB6⟩
  have hA6 := hA5.trans (hB6.mono hA5.size)
  have HS6 := Lib.hid (Sl.of_own hown6)
  clear hown6 hA5 hB6
  go_wp2_with fail
  refine (model9 v6 _ hl1 _ HS6.out).mono ?_
  rintro e w7 ⟨v7, rfl, hown7, hB7⟩
  have hA7 := hA6.trans (hB7.mono hA6.size)
  have HS7 := Lib.hid (Sl.of_own hown7)
  clear hown7 HS6 hA6 hB7
  go_wp2_with fail
  refine (whole13 a b ha hb _).mono ?_
  rintro e w8 ⟨v8, rfl, hown8, hB8⟩
  have hA8 := hA7.trans (hB8.mono hA7.size)
  have HS8 := Lib.hid (Sl.of_own hown8)
  have HS7' := Lib.hid (HS7.out.below hB8)
  clear hown8 hA7 hB8 HS7
  go_wp2_with fail
  refine (same8 v7 v8 _ _ HS7'.out HS8.out).mono ?_
  rintro e w9 ⟨rfl, hB9⟩
  have hA9 := hA8.trans (hB9.mono hA8.size)
  clear hA8 hB9 HS7' HS8
  go_wp2_with fail
  go_ret
  exact ⟨rfl, hA9⟩

set_option maxRecDepth 100000 in
set_option maxHeartbeats 1000000 in
theorem adamBytes_walk (v : Value) (l : List P6) (b n : Int) (w : World) (hs : Sl w v 6 l.length (cellsL l)) : Calls Try.prog 5 #[v, .int .i64 b, .int .i64 n] w fun e w' => e = .returned (.bool true) ∧ Below w.heap.size w w' := by
  have HS := Lib.hid hs
  obtain ⟨_, A, cap, rfl, hcap, hmax, hcell⟩ := hs
  unfold maxLen at hmax
  clear hcell
  by_cases hlong : 20 < l.length
  · go_enter Try.func5, Try.ntmps5
    go_wp2_with fail
    refine (awake7 _).mono ?_
    rintro e w1 ⟨rfl, hB1⟩
    go_wp2_with fail
    go_ret
    exact ⟨rfl, hB1⟩
  · have h20 : l.length ≤ 20 := by omega
    go_enter Try.func5, Try.ntmps5
    go_wp2_with fail
    refine (awake7 _).mono ?_
    rintro e w1 ⟨rfl, hB1⟩
    have HS1 := Lib.hid (HS.out.below hB1)
    go_wp2_with fail
    refine (back15 _ l h20 _ HS1.out).mono ?_
    rintro e w2 ⟨v2, rfl, hown2, hB2⟩
    have hA2 := hB1.trans (hB2.mono hB1.size)
    have HS2 := Lib.hid (Sl.of_own hown2)
    have HS1' := Lib.hid (HS1.out.below hB2)
    clear hown2 hB1 hB2 HS HS1
    go_wp2_with fail
    refine (bytes14 _ l b _ HS2.out).mono ?_
    rintro e w3 ⟨rfl, hB3⟩
    have hA3 := hA2.trans (hB3.mono hA2.size)
    have HS3 := Lib.hid (HS1'.out.below hB3)
    clear hA2 hB3 HS2 HS1'
    go_wp2_with fail
    refine (bytes16 _ l b _ HS3.out).mono ?_
    rintro e w4 ⟨rfl, hB4⟩
    have hA4 := hA3.trans (hB4.mono hA3.size)
    clear hA3 hB4 HS3
    go_wp2_with (first | (go_at_call 17; refine (row17 _ _ _).mono ?_; rintro e w' ⟨rfl, rfl⟩) | (go_at_call 18; refine (row18 _ _ _).mono ?_; rintro e w' ⟨rfl, rfl⟩))
    go_ret
    exact ⟨rfl, hA4⟩
end Go.Proofs.Ytcnijaakcjkekaa
