/- RasterCounts: the walk. -/
import Derived.Test.YtlefaobmpbbcaaaCols
import Derived.Test.YtlefaobmpbbcaaaAw8
namespace Go.Proofs.Ytlefaobmpbbcaaa
set_option linter.unusedVariables false
open Go.ChangeShapes Go.WideShapes Go.ChangeAt Go.RowKit

set_option maxRecDepth 100000 in
set_option maxHeartbeats 1000000 in
theorem counts_walk (a b : Int) (A : Option Addr) (n cap : Nat) (c : Nat → Nat) (hc : ∀ i, c i < 65536) (most : Int) (ha : In64 a) (hb : In64 b) (hn : n ≤ cap) (hmax : cap ≤ maxLen) (w : World) (hP : Pix w A n c) :
    Calls Try.prog 4 #[.agg #[.int .i64 a, .int .i64 b, .slice A n cap], .int .i64 most] w fun e w' => e = .returned (.bool true) ∧ Below w.heap.size w w' := by
  have HC := Lib.hid hc
  clear hc
  go_enter Try.func4, Try.ntmps4
  go_wp2_with fail
  refine (awake8 _).mono ?_
  rintro e w1 ⟨rfl, hB1⟩
  have hbx := hp_below (hp_new0 w _) hB1 (by simp)
  have hB := ((Below.refl _ w).alloc (Nat.le_refl _) _).trans (hB1.mono (by simp))
  have hP1 := (hP.below hB)
  have k0 := hp_cell (j := 0) hbx rfl
  have k1 := hp_cell (j := 1) hbx rfl
  have k2 := hp_cell (j := 2) hbx rfl
  have hs1 : w.heap.size < w1.heap.size := (Array.getElem?_eq_some_iff.1 hbx).1
  have HB := Lib.hid hB
  clear hB1 hB hP
  unfold maxLen at hmax
  by_cases h8 : 8000 < n
  · have t8 : decide ((8000 : Int) < (n : Int)) = true := by simp; omega
    go_wp2
    go_ret
    exact ⟨rfl, HB.out⟩
  · have t8 : decide ((8000 : Int) < (n : Int)) = false := by simp; omega
    go_wp2_with fail
    obtain ⟨x, y, hxy⟩ := colV_form a b n c most
    have HV := Lib.hid hxy
    clear hxy
    refine (col_any a b A n cap c HC.out most ha hb hn (by unfold maxLen; omega) _ hP1).mono ?_
    rintro e w2 ⟨rfl, hB2⟩
    rw [HV.out]
    have hbx2 := hp_below hbx hB2 hs1
    have hP2 := hP1.below hB2
    have HB2 := Lib.hid (HB.out.trans (hB2.mono HB.out.size))
    clear k0 k1 k2 hbx hP1 hB2
    have k0 := hp_cell (j := 0) hbx2 rfl
    have k1 := hp_cell (j := 1) hbx2 rfl
    have k2 := hp_cell (j := 2) hbx2 rfl
    go_wp2_with fail
    refine (colr_any a b A n cap c HC.out most ha hb hn (by unfold maxLen; omega) _ hP2).mono ?_
    rintro e w3 ⟨rfl, hB3⟩
    rw [HV.out]
    have HB3 := Lib.hid (HB2.out.trans (hB3.mono HB2.out.size))
    clear hB3
    have e1 : (x == x) = true := by simp
    have e2 : (y == y) = true := by simp
    go_wp2
    all_goals go_ret
    all_goals exact ⟨rfl, HB3.out⟩
end Go.Proofs.Ytlefaobmpbbcaaa
