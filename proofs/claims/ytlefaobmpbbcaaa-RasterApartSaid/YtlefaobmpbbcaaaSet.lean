/- raster.Set: a pixel is written. -/
import Derived.Test.YtlefaobmpbbcaaaGet
import Derived.Laws.CopyRow
namespace Go.Proofs.Ytlefaobmpbbcaaa
set_option linter.unusedVariables false
open Go.ChangeShapes Go.WideShapes Go.ChangeAt Go.RowKit

theorem grown_of_below {w w' : World} (h : Below w.heap.size w w') (row : Option Nat) : w.grownBy w' row := ⟨h.os, h.tape, h.output, h.size, fun i hi _ => h.block i hi⟩
theorem grown_setRow (w : World) (g : Nat) (cs : Array Value) : w.grownBy (w.setRow g cs) (some g) := ⟨rfl, rfl, rfl, by simp [World.setRow], fun i _ hne => setRow_other w g i cs (fun e => hne (by rw [e]))⟩
theorem grown_drewS (w : World) (row : Option Nat) : w.grownBy w.drew row := ⟨rfl, rfl, rfl, Nat.le_refl _, fun _ _ _ => rfl⟩
def pix4 (p0 p1 p2 p3 : Nat) : List Value := [.int .u16 (p0 : Nat), .int .u16 (p1 : Nat), .int .u16 (p2 : Nat), .int .u16 (p3 : Nat)]
def setCur (cur : Array Value) (k : Nat) (cs : List Value) : Array Value := (cur.toList.take (4 * k) ++ cs ++ cur.toList.drop (4 * k + cs.length)).toArray
theorem size38 : (Try.prog.info? 38).map (·.size) = some 1 := by kernel_rfl

set_option maxRecDepth 100000 in
set_option maxHeartbeats 2000000 in
theorem set_prog (a b : Int) (g n cap : Nat) (x y : Int) (p0 p1 p2 p3 : Nat) (ha : In64 a) (hb : In64 b) (hn : n ≤ cap) (hc : cap ≤ maxLen) (w : World) (cur : Array Value) (hg : w.heap[g]? = some (.cells cur 38 (0, 0))) (hcur : n ≤ cur.size) (k : Nat) (hr : inB a b n x y = true) (hk : y * a + x = (k : Int)) (hk4 : 4 * k + 4 ≤ n) :
    Calls Try.prog 16 #[.agg #[.int .i64 a, .int .i64 b, .slice (some ⟨g, 0, none⟩) n cap], .int .i64 x, .int .i64 y, .agg #[.int .u16 (p0 : Nat), .int .u16 (p1 : Nat), .int .u16 (p2 : Nat), .int .u16 (p3 : Nat)]] w fun e w' =>
      e = .returned (.bool true) ∧ w.grownBy w' (some g) ∧ w'.heap[g]? = some (.cells (setCur cur k (pix4 p0 p1 p2 p3)) 38 (0, 0)) := by
  have HR := Lib.hid hr
  have hgl : g < w.heap.size := (Array.getElem?_eq_some_iff.1 hg).1
  unfold maxLen at hc
  clear hr
  go_enter Try.func16, Try.ntmps16
  go_wp2_with fail
  refine (at_prog a b _ n cap x y ha hb hn (by unfold maxLen; omega) _).mono ?_
  rintro e u1 ⟨hB, i, rfl, hi⟩
  obtain rfl := hi HR.out
  rw [HR.out, hk]
  have hB0 := (((Below.refl _ w).alloc (Nat.le_refl _) _).alloc (by simp) _).trans (hB.mono (by simp; omega))
  have q0 := hp_below (hp_alloc _ (hp_new0 w _)) hB (by simp; omega)
  have q1 := hp_below (hp_new0 _ _) hB (by simp)
  rw [World.size_alloc] at q1
  have k2 := hp_cell (j := 2) q0 rfl
  have hg1 := hp_below hg hB0 hgl
  have hrun := run_copy_row (P := Try.prog) u1.drew 23 23 3 38 g (4 * k) (n - 4 * k) (cap - 4 * k) ⟨w.heap.size + 1, 0, none⟩ 4 4 cur _ (pix4 p0 p1 p2 p3) Try.underlying23 size38 hg1 (show 4 = Nat.min 4 (n - 4 * k) from (Nat.min_eq_left (by omega)).symm)
    (by
      intro j v hj
      match j, hj with
      | 0, hj => exact (hp_cell (j := 0) q1 rfl).trans hj
      | 1, hj => exact (hp_cell (j := 1) q1 rfl).trans hj
      | 2, hj => exact (hp_cell (j := 2) q1 rfl).trans hj
      | 3, hj => exact (hp_cell (j := 3) q1 rfl).trans hj) (by simp [pix4]; omega) (by simp [pix4, Value.oneCell'])
  have hgr : w.grownBy (u1.drew.setRow g (setCur cur k (pix4 p0 p1 p2 p3))) (some g) := ((grown_of_below hB0 _).trans (grown_drewS _ _)).trans (grown_setRow _ _ _)
  have hgh : (u1.drew.setRow g (setCur cur k (pix4 p0 p1 p2 p3))).heap[g]? = some (.cells (setCur cur k (pix4 p0 p1 p2 p3)) 38 (0, 0)) := setRow_heap _ _ _ _ _ _ hg1
  have HG := Lib.hid hgr
  have HH := Lib.hid hgh
  have hl4 : (pix4 p0 p1 p2 p3).length = 4 := rfl
  change _ = Result.ok _ (u1.drew.setRow g (setCur cur k (pix4 p0 p1 p2 p3))) at hrun
  rw [hl4] at hrun
  clear hB hB0 q0 q1 hg hg1 hgr hgh hl4
  have hck : ¬cap = 4 * k := by omega
  go_wp2
  go_region
  all_goals go_wp2
  all_goals go_ret
  all_goals exact ⟨rfl, HG.out, HH.out⟩

set_option maxRecDepth 100000 in
set_option maxHeartbeats 2000000 in
theorem set_no (a b : Int) (A : Option Addr) (n cap : Nat) (x y : Int) (p0 p1 p2 p3 : Nat) (ha : In64 a) (hb : In64 b) (hn : n ≤ cap) (hc : cap ≤ maxLen) (w : World) (hr : inB a b n x y = false) :
    Calls Try.prog 16 #[.agg #[.int .i64 a, .int .i64 b, .slice A n cap], .int .i64 x, .int .i64 y, .agg #[.int .u16 (p0 : Nat), .int .u16 (p1 : Nat), .int .u16 (p2 : Nat), .int .u16 (p3 : Nat)]] w fun e w' =>
      e = .returned (.bool false) ∧ Below w.heap.size w w' := by
  have HR := Lib.hid hr
  clear hr
  go_enter Try.func16, Try.ntmps16
  go_wp2_with fail
  refine (at_prog a b _ n cap x y ha hb hn hc _).mono ?_
  rintro e u1 ⟨hB, i, rfl, hi⟩
  rw [HR.out]
  clear hi
  have HB := Lib.hid ((((Below.refl _ w).alloc (Nat.le_refl _) _).alloc (by simp) _).trans (hB.mono (by simp; omega)))
  clear hB
  go_wp2
  go_ret
  exact ⟨rfl, HB.out⟩
end Go.Proofs.Ytlefaobmpbbcaaa
