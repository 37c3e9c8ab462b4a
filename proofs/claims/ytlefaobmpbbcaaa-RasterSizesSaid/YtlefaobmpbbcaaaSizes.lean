/- RasterSizes: the walk. -/
import Derived.Test.YtlefaobmpbbcaaaAw8
namespace Go.Proofs.Ytlefaobmpbbcaaa
set_option linter.unusedVariables false
open Go.ChangeShapes Go.WideShapes Go.ChangeAt Go.RowKit

/-- What New hands back, as a record. -/
theorem newPost.open {a b : Int} {w : World} {e : Ending} {w' : World} (h : newPost a b w e w') : ∃ a' b' A n cap, e = .returned (.tuple #[.agg #[.int .i64 a', .int .i64 b', .slice A n cap], .int .i64 (sizeE a b)]) ∧ In64 a' ∧ In64 b' ∧ n ≤ cap ∧ cap ≤ maxLen ∧
    mayB a' b' n = decide (sizeE a b = 0) ∧ (sizeE a b = 0 → a' = a ∧ b' = b ∧ n = (4 * a * b).toNat) ∧ (sizeE a b ≠ 0 → a' = 0 ∧ b' = 0 ∧ n = 0) := by
  rcases h with ⟨hz, v, rfl, hown⟩ | ⟨hz, rfl⟩
  · obtain ⟨q1, q2, q3, q4, q5⟩ := size_ok hz
    obtain ⟨m0, m1⟩ := mul_bd (4 * a) b 1024 256 (by omega) (by omega) (by omega) q4
    have hmay : mayB a b (4 * a * b).toNat = true := by simp [mayB, hz]; omega
    obtain ⟨_, A, cap, rfl, h1, h2, _⟩ := Sl.of_own hown
    exact ⟨a, b, A, _, cap, by rw [hz], by unfold In64; omega, by unfold In64; omega, h1, h2, by rw [hmay]; simp [hz], fun _ => ⟨rfl, rfl, rfl⟩, fun h => absurd hz h⟩
  · exact ⟨0, 0, none, 0, 0, rfl, by unfold In64; omega, by unfold In64; omega, Nat.le_refl _, by simp [maxLen], by rw [show mayB 0 0 0 = false from by decide]; simp [hz], fun h => absurd h hz, fun _ => ⟨rfl, rfl, rfl⟩⟩

set_option maxRecDepth 100000 in
set_option maxHeartbeats 2000000 in
theorem sizes_walk (a b : Int) (ha : In64 a) (hb : In64 b) (w : World) : Calls Try.prog 3 #[.int .i64 a, .int .i64 b] w fun e w' => e = .returned (.bool true) ∧ Below w.heap.size w w' := by
  go_enter Try.func3, Try.ntmps3
  go_wp2_with fail
  refine (awake8 _).mono ?_
  rintro e w1 ⟨rfl, hB1⟩
  go_wp2_with fail
  refine (new_prog a b ha hb _).mono ?_
  rintro e w2 ⟨hB2, hp⟩
  obtain ⟨a', b', A, n, cap, rfl, i1, i2, i3, i4, i5, i6, i7⟩ := hp.open
  clear hp
  have hA2 := hB1.trans (hB2.mono hB1.size)
  clear hB1 hB2
  go_wp2_with fail
  have hb2 := hp_new0 w2 (.cells #[.int .i64 a', .int .i64 b', .slice A n cap] 25)
  have hA2' := hA2.alloc hA2.size (.cells #[.int .i64 a', .int .i64 b', .slice A n cap] 25)
  have hs2 : (w2.alloc (.cells #[.int .i64 a', .int .i64 b', .slice A n cap] 25)).heap.size = w2.heap.size + 1 := World.size_alloc _ _
  refine (new_ref a b ha hb _).mono ?_
  rintro e w3 ⟨hB3, hp⟩
  obtain ⟨a2, b2, A2, n2, cap2, rfl, j1, j2, j3, j4, j5, j6, j7⟩ := hp.open
  clear hp
  have hb3 := hp_below hb2 hB3 (by omega)
  have hA3 := hA2'.trans (hB3.mono hA2'.size)
  obtain ⟨rfl, rfl, rfl⟩ : a2 = a' ∧ b2 = b' ∧ n2 = n := by
    by_cases hz : sizeE a b = 0
    · obtain ⟨r1, r2, r3⟩ := i6 hz
      obtain ⟨s1, s2, s3⟩ := j6 hz
      exact ⟨s1.trans r1.symm, s2.trans r2.symm, s3.trans r3.symm⟩
    · obtain ⟨r1, r2, r3⟩ := i7 hz
      obtain ⟨s1, s2, s3⟩ := j7 hz
      exact ⟨s1.trans r1.symm, s2.trans r2.symm, s3.trans r3.symm⟩
  have hs3 : w2.heap.size + 1 ≤ w3.heap.size := by have := hB3.size; omega
  have hb4 := hp_alloc (.cells #[.int .i64 a2, .int .i64 b2, .slice A2 n2 cap2] 25) hb3
  have hd4 := hp_new0 w3 (.cells #[.int .i64 a2, .int .i64 b2, .slice A2 n2 cap2] 25)
  have HA := Lib.hid (hA3.alloc hA3.size (.cells #[.int .i64 a2, .int .i64 b2, .slice A2 n2 cap2] 25))
  have H5 := Lib.hid i5
  clear hA2 hA2' hb2 hs2 hB3 hb3 hA3 i5 i6 i7 j5 j6 j7
  have k0 := hp_cell (j := 0) hb4 rfl
  have k1 := hp_cell (j := 1) hb4 rfl
  have k2 := hp_cell (j := 2) hb4 rfl
  have l0 := hp_cell (j := 0) hd4 rfl
  have l1 := hp_cell (j := 1) hd4 rfl
  have l2 := hp_cell (j := 2) hd4 rfl
  go_wp2_with fail
  refine (size_prog a b ha hb _).mono ?_
  rintro e w5 ⟨rfl, rfl⟩
  go_wp2_with fail
  refine (size_ref a b ha hb _).mono ?_
  rintro e w5 ⟨rfl, rfl⟩
  go_wp2_with fail
  refine (may_prog a2 b2 A n2 cap i1 i2 i3 i4 _).mono ?_
  rintro e w5 ⟨rfl, hB5⟩
  rw [H5.out]
  go_wp2
  go_ret
  exact ⟨ret_b (by rw [show (decide (sizeE a b = 0) == (sizeE a b == 0)) = true from by by_cases hz : sizeE a b = 0 <;> simp [hz]]), HA.out.trans (hB5.mono HA.out.size)⟩
end Go.Proofs.Ytlefaobmpbbcaaa
