/- engraverref8.At and Set; Set of both, over rows of one's own. -/
import Derived.Test.YtlefaobmpbbcaaaCopy
import Derived.Test.YtlefaobmpbbcaaaEq
import Derived.Test.YtlefaobmpbbcaaaRows8
namespace Go.Proofs.Ytlefaobmpbbcaaa
set_option linter.unusedVariables false
open Go.ChangeShapes Go.WideShapes Go.ChangeAt Go.RowKit

theorem in_cases (a b : Int) (n : Nat) (x y : Int) :
    (mayB a b n = false) ∨ (mayB a b n = true ∧ x < 0) ∨ (mayB a b n = true ∧ 0 ≤ x ∧ y < 0) ∨ (mayB a b n = true ∧ 0 ≤ x ∧ 0 ≤ y ∧ a ≤ x) ∨ (mayB a b n = true ∧ 0 ≤ x ∧ 0 ≤ y ∧ x < a ∧ b ≤ y) ∨ (mayB a b n = true ∧ 0 ≤ x ∧ 0 ≤ y ∧ x < a ∧ y < b) := by
  cases mayB a b n
  · exact .inl rfl
  · simp
    omega
/-- The three boxes of At. -/
theorem three_boxes (w : World) (cs c1 c2 : Array Value) (t t1 t2 : TypeId) : let W := ((w.alloc (.cells cs t)).alloc (.cells c1 t1)).alloc (.cells c2 t2)
    W.heap.size = w.heap.size + 3 ∧ W.heap[w.heap.size]? = some (.cells cs t (0, 0)) ∧ W.heap[w.heap.size + 1]? = some (.cells c1 t1 (0, 0)) ∧ W.heap[w.heap.size + 1 + 1]? = some (.cells c2 t2 (0, 0)) ∧ Below w.heap.size w W := by
  intro W
  have h1 := hp_new0 (w.alloc (.cells cs t)) (.cells c1 t1)
  have h2 := hp_new0 ((w.alloc (.cells cs t)).alloc (.cells c1 t1)) (.cells c2 t2)
  simp only [World.size_alloc] at h1 h2
  exact ⟨by simp [W, World.size_alloc], hp_alloc _ (hp_alloc _ (hp_new0 _ _)), hp_alloc _ h1, h2, (((Below.refl _ w).alloc (Nat.le_refl _) _).alloc (by simp) _).alloc (by simp; omega) _⟩

set_option maxRecDepth 100000 in
set_option maxHeartbeats 2000000 in
theorem get_ref (a b : Int) (A : Option Addr) (n cap : Nat) (c : Nat → Nat) (x y : Int) (ha : In64 a) (hb : In64 b) (hn : n ≤ cap) (hc : cap ≤ maxLen) (w : World) (hP : Pix w A n c) :
    Calls Try.prog 19 #[.agg #[.int .i64 a, .int .i64 b, .slice A n cap], .int .i64 x, .int .i64 y] w fun e w' =>
      Below w.heap.size w w' ∧ e = .returned (.tuple #[getV a b n c x y, .bool (inB a b n x y)]) := by
  obtain ⟨q0, q1, q2, q3, q4⟩ := three_boxes w #[.int .i64 a, .int .i64 b, .slice A n cap] #[.int .u16 0, .int .u16 0, .int .u16 0, .int .u16 0] #[.int .u16 0, .int .u16 0, .int .u16 0, .int .u16 0] 25 41 41
  rcases in_cases a b n x y with hm | ⟨hm, h1⟩ | ⟨hm, h1, h2⟩ | ⟨hm, h1, h2, h3⟩ | ⟨hm, h1, h2, h3, h4⟩ | ⟨hm, h1, h2, h3, h4⟩
  case inr.inr.inr.inr.inr =>
    have hr : inB a b n x y = true := by simp [inB, hm]; omega
    obtain ⟨s1, s2, s3, s4, s5⟩ := size_ok (may_ok hm).1
    obtain ⟨m0, m1⟩ := mul_bd y a 256 256 h2 (by omega) (by omega) s2
    obtain ⟨k, hk, hk4, hk5⟩ := in_place hr
    have w1 : wrap64 (y * a) = y * a := IntWalk.wrap64_in _ (by omega)
    have w2' : wrap64 (y * a + x) = (k : Int) := (IntWalk.wrap64_in _ (by omega)).trans hk
    have hgv : getV a b n c x y = px c k := by unfold getV; rw [if_pos hr, hk]; rfl
    have v1 : IntKind.i64.wrap (y * a) = y * a := IntWalk.i64_in _ (by omega)
    have v2 : IntKind.i64.wrap (y * a + x) = (k : Int) := (IntWalk.i64_in _ (by omega)).trans hk
    have v3 : IntKind.i64.wrap (4 * (k : Int)) = 4 * (k : Int) := IntWalk.i64_in _ (by omega)
    obtain ⟨bk, off, rfl, hbk, hcs⟩ := hP (by omega)
    have HG := Lib.hid hgv
    have HR := Lib.hid hr
    have HM := Lib.hid hm
    clear hgv hr hm m0 m1 s1 s2 s3 s4 s5
    go_enter Try.func19, Try.ntmps19
    go_wp2_with fail
    refine (may_ref a b _ n cap ha hb hn hc _).mono ?_
    rintro e u1 ⟨rfl, hB⟩
    rw [HM.out]
    rw [q0] at hB
    have p0 := hp_below q1 hB (by omega)
    have p1 := hp_below q2 hB (by omega)
    have p2 := hp_below q3 hB (by omega)
    have k0 := hp_cell (j := 0) p0 rfl
    have k1 := hp_cell (j := 1) p0 rfl
    have k2 := hp_cell (j := 2) p0 rfl
    have hBw := q4.trans (hB.mono (by omega))
    unfold maxLen at hc
    have hcp : ∀ j, j < 4 → u1.drew.cell? ⟨bk, off + 4 * k + j, none⟩ = (cP (p4 c k))[j]? := fun j hj => by
      have h1 := (hBw.cell (p := ⟨bk, off + (4 * k + j), none⟩) hbk).trans (hcs (4 * k + j) (by omega))
      rw [← Nat.add_assoc] at h1
      have h2 : u1.drew.cell? ⟨bk, off + 4 * k + j, none⟩ = u1.cell? ⟨bk, off + 4 * k + j, none⟩ := rfl
      rw [h2, h1]
      obtain rfl | rfl | rfl | rfl : j = 0 ∨ j = 1 ∨ j = 2 ∨ j = 3 := by omega
      all_goals rfl
    have p2d : u1.drew.heap[w.heap.size + 1 + 1]? = some (.cells #[.int .u16 0, .int .u16 0, .int .u16 0, .int .u16 0] 41 (0, 0)) := p2
    have hrun := run_copy_row (P := Try.prog) u1.drew 23 23 3 38 (w.heap.size + 1 + 1) 0 4 4 ⟨bk, off + 4 * k, none⟩ (n - 4 * k) (cap - 4 * k) _ _ (cP (p4 c k)) Try.underlying23 size38 p2d
        (show 4 = Nat.min (n - 4 * k) 4 from (Nat.min_eq_right (by omega)).symm)
        (by
          intro j v hj
          have hj4 : j < 4 := by have := (List.getElem?_eq_some_iff.1 hj).1; simpa [cP] using this
          rw [Addr.add_lit]
          exact (hcp j hj4).trans hj) (by simp [cP]) (cP_one _)
    change _ = Result.ok _ (u1.drew.setRow (w.heap.size + 1 + 1) (cP (p4 c k)).toArray) at hrun
    have hb2 : Below w.heap.size w (u1.drew.setRow (w.heap.size + 1 + 1) (cP (p4 c k)).toArray) := below_setRow hBw.drew (by omega) _
    have hh2 : (u1.drew.setRow (w.heap.size + 1 + 1) (cP (p4 c k)).toArray).heap[w.heap.size + 1 + 1]? = some (.cells (cP (p4 c k)).toArray 41 (0, 0)) := setRow_heap _ _ _ _ _ _ p2d
    have hh1 : (u1.drew.setRow (w.heap.size + 1 + 1) (cP (p4 c k)).toArray).heap[w.heap.size + 1]? = some (.cells #[.int .u16 0, .int .u16 0, .int .u16 0, .int .u16 0] 41 (0, 0)) := ((grown_setRow _ _ _).block _ (Array.getElem?_eq_some_iff.1 p1).1 (fun e => by injection e; omega)).trans p1
    have HB2 := Lib.hid hb2
    have HH1 := Lib.hid hh1
    have HH2 := Lib.hid hh2
    have hck : ¬cap = 4 * k := by omega
    have hlI : (4 : Int) * (k : Int) + 4 ≤ (n : Int) := by omega
    have hkn : (0 : Int) ≤ (k : Int) := by omega
    clear hB q0 q1 q2 q3 q4 p0 p1 p2 p2d hBw hcp hcs hb2 hh1 hh2 hk hk5
    go_wp2_with fail
    go_region
    generalize u1.drew.setRow (w.heap.size + 1 + 1) (cP (p4 c k)).toArray = W2 at *
    have l0 := hp_cell (j := 0) HH1.out rfl
    have l1 := hp_cell (j := 1) HH1.out rfl
    have l2 := hp_cell (j := 2) HH1.out rfl
    have l3 := hp_cell (j := 3) HH1.out rfl
    have lf : ∀ j, W2.frozen? ⟨w.heap.size + 1, j, none⟩ = false := fun j => by simp [World.frozen?, HH1.out]
    have g0 : W2.cell? ⟨w.heap.size + 1 + 1, 0, none⟩ = some (.int .u16 (c (4 * k) : Nat)) := hp_cell (j := 0) HH2.out rfl
    have g1 : W2.cell? ⟨w.heap.size + 1 + 1, 1, none⟩ = some (.int .u16 (c (4 * k + 1) : Nat)) := hp_cell (j := 1) HH2.out rfl
    have g2 : W2.cell? ⟨w.heap.size + 1 + 1, 2, none⟩ = some (.int .u16 (c (4 * k + 2) : Nat)) := hp_cell (j := 2) HH2.out rfl
    have g3 : W2.cell? ⟨w.heap.size + 1 + 1, 3, none⟩ = some (.int .u16 (c (4 * k + 3) : Nat)) := hp_cell (j := 3) HH2.out rfl
    go_wp2
    refine bodyPost_ret (v := .tuple #[px c k, .bool true]) (by rw [results_cell_tmp rfl]; unfold px; go_simp) rfl ?_
    refine ⟨?_, by rw [HG.out, HR.out]⟩
    exact (((HB2.out.setCell (p := ⟨w.heap.size + 1, 0, none⟩) (by simp) _).setCell (p := ⟨w.heap.size + 1, 1, none⟩) (by simp) _).setCell (p := ⟨w.heap.size + 1, 2, none⟩) (by simp) _).setCell (p := ⟨w.heap.size + 1, 3, none⟩) (by simp) _
  all_goals
    have hr : inB a b n x y = false := by first | (simp [inB, hm]; done) | (simp [inB, hm]; omega)
    have hgv : getV a b n c x y = zero4 := by unfold getV; rw [hr]; rfl
    have HG := Lib.hid hgv
    have HR := Lib.hid hr
    have HM := Lib.hid hm
    clear hgv hr hm hP
    go_enter Try.func19, Try.ntmps19
    go_wp2_with fail
    refine (may_ref a b _ n cap ha hb hn hc _).mono ?_
    rintro e u1 ⟨rfl, hB⟩
    rw [HM.out]
    rw [q0] at hB
    have p0 := hp_below q1 hB (by omega)
    have p1 := hp_below q2 hB (by omega)
    have p2 := hp_below q3 hB (by omega)
    have k0 := hp_cell (j := 0) p0 rfl
    have k1 := hp_cell (j := 1) p0 rfl
    have k2 := hp_cell (j := 2) p0 rfl
    have l0 := hp_cell (j := 0) p1 rfl
    have l1 := hp_cell (j := 1) p1 rfl
    have l2 := hp_cell (j := 2) p1 rfl
    have l3 := hp_cell (j := 3) p1 rfl
    have lf : ∀ j, u1.frozen? ⟨w.heap.size + 1, j, none⟩ = false := fun j => by simp [World.frozen?, p1]
    have g0 := hp_cell (j := 0) p2 rfl
    have g1 := hp_cell (j := 1) p2 rfl
    have g2 := hp_cell (j := 2) p2 rfl
    have g3 := hp_cell (j := 3) p2 rfl
    have HB := Lib.hid (q4.trans (hB.mono (by omega)))
    clear hB q0 q1 q2 q3 q4 p0 p1 p2
    go_wp2
    refine bodyPost_ret (v := .tuple #[zero4, .bool false]) (by rw [results_cell_tmp rfl]; unfold zero4; go_simp) rfl ?_
    refine ⟨?_, by rw [HG.out, HR.out]⟩
    exact (((HB.out.setCell (p := ⟨w.heap.size + 1, 0, none⟩) (by simp) _).setCell (p := ⟨w.heap.size + 1, 1, none⟩) (by simp) _).setCell (p := ⟨w.heap.size + 1, 2, none⟩) (by simp) _).setCell (p := ⟨w.heap.size + 1, 3, none⟩) (by simp) _
end Go.Proofs.Ytlefaobmpbbcaaa
