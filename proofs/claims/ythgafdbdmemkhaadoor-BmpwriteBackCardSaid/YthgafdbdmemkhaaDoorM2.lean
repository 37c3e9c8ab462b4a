/- raster.at: where a pixel's samples begin. raster.At: a pixel. raster.Set: a pixel is written. Unlike pixels as a list without repeats, and how many there are. Two pixels compared. engraverref8.List: the unlike pixels and each pixel's place; engraverref8.Colours. Colours of the program and of the reference, at every picture. -/
import Derived.Test.YthgafdbdmemkhaaDoorM1
import Derived.Laws.CopyRow
import Derived.Laws.StructEq
import Derived.Deep.RegionHeld3
namespace Go.Proofs.YthgafdbdmemkhaaDoor
set_option maxRecDepth 100000
set_option linter.unusedVariables false
open Go.ChangeShapes Go.WideShapes Go.ChangeAt Go.RowKit

def inB (a b : Int) (n : Nat) (x y : Int) : Bool := mayB a b n && decide (0 ≤ x ∧ x < a ∧ 0 ≤ y ∧ y < b)
theorem in_ok {a b : Int} {n : Nat} {x y : Int} (h : inB a b n x y = true) : mayB a b n = true ∧ 0 ≤ x ∧ x < a ∧ 0 ≤ y ∧ y < b := by simpa [inB] using h

theorem at_cases (a b : Int) (n : Nat) (x y : Int) :
    (mayB a b n = false) ∨ (mayB a b n = true ∧ x < 0) ∨ (mayB a b n = true ∧ 0 ≤ x ∧ a ≤ x) ∨ (mayB a b n = true ∧ 0 ≤ x ∧ x < a ∧ y < 0) ∨ (mayB a b n = true ∧ 0 ≤ x ∧ x < a ∧ 0 ≤ y ∧ b ≤ y) ∨ (mayB a b n = true ∧ 0 ≤ x ∧ x < a ∧ 0 ≤ y ∧ y < b) := by
  cases mayB a b n
  · exact .inl rfl
  · simp
    omega

set_option maxRecDepth 100000 in
set_option maxHeartbeats 2000000 in
theorem at_prog (a b : Int) (A : Option Addr) (n cap : Nat) (x y : Int) (ha : In64 a) (hb : In64 b) (hn : n ≤ cap) (hc : cap ≤ maxLen) (w : World) :
    Calls Tryd.prog 34 #[.agg #[.int .i64 a, .int .i64 b, .slice A n cap], .int .i64 x, .int .i64 y] w fun e w' =>
      Below w.heap.size w w' ∧ ∃ i, e = .returned (.tuple #[.int .i64 i, .bool (inB a b n x y)]) ∧ (inB a b n x y = true → i = 4 * (y * a + x)) := by
  rcases at_cases a b n x y with hm | ⟨hm, h1⟩ | ⟨hm, h1, h2⟩ | ⟨hm, h1, h2, h3⟩ | ⟨hm, h1, h2, h3, h4⟩ | ⟨hm, h1, h2, h3, h4⟩
  case inr.inr.inr.inr.inr =>
    have hr : inB a b n x y = true := by simp [inB, hm]; omega
    have HR := Lib.hid hr
    obtain ⟨q1, q2, q3, q4, q5⟩ := size_ok (may_ok hm).1
    obtain ⟨m0, m1⟩ := mul_bd y a 256 256 h3 (by omega) (by omega) q2
    have w1 : wrap64 (y * a) = y * a := IntWalk.wrap64_in _ (by omega)
    have w2 : wrap64 (y * a + x) = y * a + x := IntWalk.wrap64_in _ (by omega)
    have w3 : wrap64 (4 * (y * a + x)) = 4 * (y * a + x) := IntWalk.wrap64_in _ (by omega)
    have HM := Lib.hid hm
    clear hm hr q1 q2 q3 q4 q5
    go_enter Tryd.func34, Tryd.ntmps34
    go_wp2_with fail
    refine (may_prog a b A n cap ha hb hn hc _).mono ?_
    rintro e u1 ⟨rfl, hB⟩
    rw [HM.out]
    have hbx := hp_below (hp_new0 w _) hB (by simp)
    have k0 := hp_cell (j := 0) hbx rfl
    have k1 := hp_cell (j := 1) hbx rfl
    have HB := Lib.hid ((((Below.refl _ w).alloc (Nat.le_refl _) _).trans (hB.mono (by simp))))
    clear hB hbx
    go_wp2
    go_ret2
    refine ⟨HB.out, _, ret2_ib rfl (by rw [HR.out] <;> (simp; omega)), ?_⟩
    intro _
    exact w3
  case inl =>
    have hr : inB a b n x y = false := by simp [inB, hm]
    have HR := Lib.hid hr
    have HM := Lib.hid hm
    clear hm hr
    go_enter Tryd.func34, Tryd.ntmps34
    go_wp2_with fail
    refine (may_prog a b A n cap ha hb hn hc _).mono ?_
    rintro e u1 ⟨rfl, hB⟩
    rw [HM.out]
    have hbx := hp_below (hp_new0 w _) hB (by simp)
    have k0 := hp_cell (j := 0) hbx rfl
    have k1 := hp_cell (j := 1) hbx rfl
    have HB := Lib.hid ((((Below.refl _ w).alloc (Nat.le_refl _) _).trans (hB.mono (by simp))))
    clear hB hbx
    go_wp2
    go_ret2
    refine ⟨HB.out, _, ret2_ib rfl (by rw [HR.out] <;> (simp; omega)), ?_⟩
    intro h
    rw [HR.out] at h
    cases h
  case inr.inl =>
    have hr : inB a b n x y = false := by simp [inB, hm]; omega
    have HR := Lib.hid hr
    have HM := Lib.hid hm
    clear hm hr
    go_enter Tryd.func34, Tryd.ntmps34
    go_wp2_with fail
    refine (may_prog a b A n cap ha hb hn hc _).mono ?_
    rintro e u1 ⟨rfl, hB⟩
    rw [HM.out]
    have hbx := hp_below (hp_new0 w _) hB (by simp)
    have k0 := hp_cell (j := 0) hbx rfl
    have k1 := hp_cell (j := 1) hbx rfl
    have HB := Lib.hid ((((Below.refl _ w).alloc (Nat.le_refl _) _).trans (hB.mono (by simp))))
    clear hB hbx
    go_wp2
    go_ret2
    refine ⟨HB.out, _, ret2_ib rfl (by rw [HR.out] <;> (simp; omega)), ?_⟩
    intro h
    rw [HR.out] at h
    cases h
  case inr.inr.inl =>
    have hr : inB a b n x y = false := by simp [inB, hm]; omega
    have HR := Lib.hid hr
    have HM := Lib.hid hm
    clear hm hr
    go_enter Tryd.func34, Tryd.ntmps34
    go_wp2_with fail
    refine (may_prog a b A n cap ha hb hn hc _).mono ?_
    rintro e u1 ⟨rfl, hB⟩
    rw [HM.out]
    have hbx := hp_below (hp_new0 w _) hB (by simp)
    have k0 := hp_cell (j := 0) hbx rfl
    have k1 := hp_cell (j := 1) hbx rfl
    have HB := Lib.hid ((((Below.refl _ w).alloc (Nat.le_refl _) _).trans (hB.mono (by simp))))
    clear hB hbx
    go_wp2
    go_ret2
    refine ⟨HB.out, _, ret2_ib rfl (by rw [HR.out] <;> (simp; omega)), ?_⟩
    intro h
    rw [HR.out] at h
    cases h
  case inr.inr.inr.inl =>
    have hr : inB a b n x y = false := by simp [inB, hm]; omega
    have HR := Lib.hid hr
    have HM := Lib.hid hm
    clear hm hr
    go_enter Tryd.func34, Tryd.ntmps34
    go_wp2_with fail
    refine (may_prog a b A n cap ha hb hn hc _).mono ?_
    rintro e u1 ⟨rfl, hB⟩
    rw [HM.out]
    have hbx := hp_below (hp_new0 w _) hB (by simp)
    have k0 := hp_cell (j := 0) hbx rfl
    have k1 := hp_cell (j := 1) hbx rfl
    have HB := Lib.hid ((((Below.refl _ w).alloc (Nat.le_refl _) _).trans (hB.mono (by simp))))
    clear hB hbx
    go_wp2
    go_ret2
    refine ⟨HB.out, _, ret2_ib rfl (by rw [HR.out] <;> (simp; omega)), ?_⟩
    intro h
    rw [HR.out] at h
    cases h
  case inr.inr.inr.inr.inl =>
    have hr : inB a b n x y = false := by simp [inB, hm]; omega
    have HR := Lib.hid hr
    have HM := Lib.hid hm
    clear hm hr
    go_enter Tryd.func34, Tryd.ntmps34
    go_wp2_with fail
    refine (may_prog a b A n cap ha hb hn hc _).mono ?_
    rintro e u1 ⟨rfl, hB⟩
    rw [HM.out]
    have hbx := hp_below (hp_new0 w _) hB (by simp)
    have k0 := hp_cell (j := 0) hbx rfl
    have k1 := hp_cell (j := 1) hbx rfl
    have HB := Lib.hid ((((Below.refl _ w).alloc (Nat.le_refl _) _).trans (hB.mono (by simp))))
    clear hB hbx
    go_wp2
    go_ret2
    refine ⟨HB.out, _, ret2_ib rfl (by rw [HR.out] <;> (simp; omega)), ?_⟩
    intro h
    rw [HR.out] at h
    cases h
end Go.Proofs.YthgafdbdmemkhaaDoor

namespace Go.Proofs.YthgafdbdmemkhaaDoor
set_option maxRecDepth 100000
set_option linter.unusedVariables false
open Go.ChangeShapes Go.WideShapes Go.ChangeAt Go.RowKit

/-- A picture's samples lie in w: n of them, c j the j-th. -/
def Pix (w : World) (A : Option Addr) (n : Nat) (c : Nat → Nat) : Prop :=
  0 < n → ∃ bk off, A = some ⟨bk, off, none⟩ ∧ bk < w.heap.size ∧ ∀ j, j < n → w.cell? ⟨bk, off + j, none⟩ = some (.int .u16 (c j : Nat))
theorem Pix.below {w w' : World} {A : Option Addr} {n : Nat} {c : Nat → Nat} (h : Pix w A n c) (hb : Below w.heap.size w w') : Pix w' A n c := fun hn => by
  obtain ⟨bk, off, rfl, hlt, hc⟩ := h hn
  exact ⟨bk, off, rfl, Nat.lt_of_lt_of_le hlt hb.size, fun j hj => (hb.cell (p := ⟨bk, off + j, none⟩) hlt).trans (hc j hj)⟩
theorem pixB {w W : World} {o : Obj} {A : Option Addr} {n : Nat} {c : Nat → Nat} (h : Pix (w.alloc o) A n c) (hb : Below (w.heap.size + 1) (w.alloc o) W) : Pix W A n c := h.below (by rw [World.size_alloc]; exact hb)
theorem keep_below {w8 w w' : World} {o : Obj} (h : Below (w8.heap.size + 1) (w8.alloc o) w) (hb : Below w.heap.size w w') : Below (w8.heap.size + 1) (w8.alloc o) w' := h.trans (hb.mono (by have := h.size; rwa [World.size_alloc] at this))
theorem below_keep {w w' : World} {p : Addr} {v : Value} (hb : Below w.heap.size w w') (h : w.cell? p = some v) : w'.cell? p = some v := (hb.cell (lt_of_cell h)).trans h
/-- The two boxes of a comparison. -/
theorem two_boxes (w : World) (cs cs2 : Array Value) (t t2 : TypeId) : let W := (w.alloc (.cells cs t)).alloc (.cells cs2 t2)
    W.heap.size = w.heap.size + 2 ∧ W.heap[w.heap.size]? = some (.cells cs t (0, 0)) ∧ W.heap[w.heap.size + 1]? = some (.cells cs2 t2 (0, 0)) ∧ Below w.heap.size w W := by
  intro W
  have h2 := hp_new0 (w.alloc (.cells cs t)) (.cells cs2 t2)
  rw [World.size_alloc] at h2
  exact ⟨by simp [W, World.size_alloc], hp_alloc _ (hp_new0 _ _), h2, ((Below.refl _ w).alloc (Nat.le_refl _) _).alloc (by simp) _⟩
/-- The place of a pixel, and that it lies within. -/
theorem in_place {a b : Int} {n : Nat} {x y : Int} (h : inB a b n x y = true) : ∃ k : Nat, y * a + x = (k : Int) ∧ 4 * k + 4 ≤ n ∧ n ≤ 65536 := by
  obtain ⟨hm, h1, h2, h3, h4⟩ := in_ok h
  obtain ⟨hz, hn⟩ := may_ok hm
  obtain ⟨q1, q2, q3, q4, q5⟩ := size_ok hz
  obtain ⟨m0, m1⟩ := mul_bd y a 256 256 h3 (by omega) (by omega) q2
  refine ⟨(y * a + x).toNat, by omega, ?_, ?_⟩
  · have e : (y + 1) * a ≤ b * a := Int.mul_le_mul_of_nonneg_right (by omega) (by omega)
    rw [Int.add_mul, Int.one_mul] at e
    have e2 : 4 * a * b = 4 * (b * a) := by rw [Int.mul_assoc, Int.mul_comm a b]
    omega
  · have e2 : 4 * a * b = 4 * (a * b) := by rw [Int.mul_assoc]
    omega
def zero4 : Value := .agg #[.int .u16 0, .int .u16 0, .int .u16 0, .int .u16 0]
def getV (a b : Int) (n : Nat) (c : Nat → Nat) (x y : Int) : Value := if inB a b n x y = true then px c (y * a + x).toNat else zero4

set_option maxRecDepth 100000 in
set_option maxHeartbeats 2000000 in
theorem get_prog (a b : Int) (A : Option Addr) (n cap : Nat) (c : Nat → Nat) (x y : Int) (ha : In64 a) (hb : In64 b) (hn : n ≤ cap) (hc : cap ≤ maxLen) (w : World) (hP : Pix w A n c) :
    Calls Tryd.prog 17 #[.agg #[.int .i64 a, .int .i64 b, .slice A n cap], .int .i64 x, .int .i64 y] w fun e w' =>
      Below w.heap.size w w' ∧ e = .returned (.tuple #[getV a b n c x y, .bool (inB a b n x y)]) := by
  cases hr : inB a b n x y with
  | true =>
    obtain ⟨k, hk, hk4, hk5⟩ := in_place hr
    obtain ⟨bk, off, rfl, hbk, hcs⟩ := hP (by omega)
    have hgv : getV a b n c x y = px c k := by unfold getV; rw [if_pos hr, hk]; rfl
    have HG := Lib.hid hgv
    have HR := Lib.hid hr
    clear hgv hr
    go_enter Tryd.func17, Tryd.ntmps17
    go_wp2_with fail
    refine (at_prog a b _ n cap x y ha hb hn hc _).mono ?_
    rintro e u1 ⟨hB, i, rfl, hi⟩
    obtain rfl := hi HR.out
    rw [HR.out, hk]
    have hB0 := (((Below.refl _ w).alloc (Nat.le_refl _) _).alloc (by simp) _).trans (hB.mono (by simp; omega))
    have q0 := hp_below (hp_alloc _ (hp_new0 w _)) hB (by simp; omega)
    have q1 := hp_below (hp_new0 _ _) hB (by simp)
    rw [World.size_alloc] at q1
    have k2 := hp_cell (j := 2) q0 rfl
    have z0 := hp_cell (j := 0) q1 rfl
    have z1 := hp_cell (j := 1) q1 rfl
    have z2 := hp_cell (j := 2) q1 rfl
    have z3 := hp_cell (j := 3) q1 rfl
    have zf : ∀ j, u1.frozen? ⟨w.heap.size + 1, j, none⟩ = false := fun j => by simp [World.frozen?, q1]
    have c0 : u1.cell? ⟨bk, off + 4 * k, none⟩ = _ := (hB0.cell (p := ⟨bk, off + 4 * k, none⟩) hbk).trans (hcs (4 * k) (by omega))
    have c1 : u1.cell? ⟨bk, off + 4 * k + 1, none⟩ = some (.int .u16 (c (4 * k + 1) : Nat)) := (hB0.cell (p := ⟨bk, off + 4 * k + 1, none⟩) hbk).trans (by have := hcs (4 * k + 1) (by omega); rwa [← Nat.add_assoc] at this)
    have c2 : u1.cell? ⟨bk, off + 4 * k + 2, none⟩ = some (.int .u16 (c (4 * k + 2) : Nat)) := (hB0.cell (p := ⟨bk, off + 4 * k + 2, none⟩) hbk).trans (by have := hcs (4 * k + 2) (by omega); rwa [← Nat.add_assoc] at this)
    have c3 : u1.cell? ⟨bk, off + 4 * k + 3, none⟩ = some (.int .u16 (c (4 * k + 3) : Nat)) := (hB0.cell (p := ⟨bk, off + 4 * k + 3, none⟩) hbk).trans (by have := hcs (4 * k + 3) (by omega); rwa [← Nat.add_assoc] at this)
    have HB := Lib.hid hB0
    clear hB hB0 q0 q1 hcs hP
    have hck : ¬cap = 4 * k := by omega
    have hlI : (4 : Int) * (k : Int) + 4 ≤ (n : Int) := by omega
    have hat : ∀ W, (Instr.arrayAt 45 (.slice (some ⟨bk, off + 4 * k, none⟩) 4 (cap - 4 * k))).run Tryd.prog W = .ok (.pointer (some ⟨bk, off + 4 * k, none⟩)) W := fun W => by kernel_rfl
    go_wp2
    refine bodyPost_ret (v := .tuple #[px c k, .bool true]) (by rw [results_cell_tmp rfl]; unfold px; go_simp) rfl ?_
    refine ⟨?_, by rw [HG.out]⟩
    exact ((((HB.out).setCell (p := ⟨w.heap.size + 1, 0, none⟩) (by simp) _).setCell (p := ⟨w.heap.size + 1, 1, none⟩) (by simp) _).setCell (p := ⟨w.heap.size + 1, 2, none⟩) (by simp) _).setCell (p := ⟨w.heap.size + 1, 3, none⟩) (by simp) _
  | false =>
    have hgv : getV a b n c x y = zero4 := by unfold getV; rw [hr]; rfl
    have HG := Lib.hid hgv
    have HR := Lib.hid hr
    clear hgv hr
    go_enter Tryd.func17, Tryd.ntmps17
    go_wp2_with fail
    refine (at_prog a b _ n cap x y ha hb hn hc _).mono ?_
    rintro e u1 ⟨hB, i, rfl, hi⟩
    rw [HR.out]
    clear hi
    have hB0 := (((Below.refl _ w).alloc (Nat.le_refl _) _).alloc (by simp) _).trans (hB.mono (by simp; omega))
    have q1 := hp_below (hp_new0 _ _) hB (by simp)
    rw [World.size_alloc] at q1
    have z0 := hp_cell (j := 0) q1 rfl
    have z1 := hp_cell (j := 1) q1 rfl
    have z2 := hp_cell (j := 2) q1 rfl
    have z3 := hp_cell (j := 3) q1 rfl
    have zf : ∀ j, u1.frozen? ⟨w.heap.size + 1, j, none⟩ = false := fun j => by simp [World.frozen?, q1]
    have HB := Lib.hid hB0
    clear hB hB0 q1 hP
    go_wp2
    refine bodyPost_ret (v := .tuple #[zero4, .bool false]) (by rw [results_cell_tmp rfl]; unfold zero4; go_simp) rfl ?_
    refine ⟨?_, by rw [HG.out]⟩
    exact ((((HB.out).setCell (p := ⟨w.heap.size + 1, 0, none⟩) (by simp) _).setCell (p := ⟨w.heap.size + 1, 1, none⟩) (by simp) _).setCell (p := ⟨w.heap.size + 1, 2, none⟩) (by simp) _).setCell (p := ⟨w.heap.size + 1, 3, none⟩) (by simp) _
end Go.Proofs.YthgafdbdmemkhaaDoor

namespace Go.Proofs.YthgafdbdmemkhaaDoor
set_option maxRecDepth 100000
set_option linter.unusedVariables false
open Go.ChangeShapes Go.WideShapes Go.ChangeAt Go.RowKit

theorem grown_of_below {w w' : World} (h : Below w.heap.size w w') (row : Option Nat) : w.grownBy w' row := ⟨h.os, h.tape, h.output, h.size, fun i hi _ => h.block i hi⟩
theorem grown_setRow (w : World) (g : Nat) (cs : Array Value) : w.grownBy (w.setRow g cs) (some g) := ⟨rfl, rfl, rfl, by simp [World.setRow], fun i _ hne => setRow_other w g i cs (fun e => hne (by rw [e]))⟩
theorem grown_drewS (w : World) (row : Option Nat) : w.grownBy w.drew row := ⟨rfl, rfl, rfl, Nat.le_refl _, fun _ _ _ => rfl⟩
def pix4 (p0 p1 p2 p3 : Nat) : List Value := [.int .u16 (p0 : Nat), .int .u16 (p1 : Nat), .int .u16 (p2 : Nat), .int .u16 (p3 : Nat)]
def setCur (cur : Array Value) (k : Nat) (cs : List Value) : Array Value := (cur.toList.take (4 * k) ++ cs ++ cur.toList.drop (4 * k + cs.length)).toArray
theorem setCur_size (cur : Array Value) (k : Nat) (cs : List Value) (h : 4 * k + cs.length ≤ cur.size) : (setCur cur k cs).size = cur.size := by
  simp [setCur]; omega
theorem setCur_in (cur : Array Value) (k : Nat) (cs : List Value) (h : 4 * k + cs.length ≤ cur.size) (j : Nat) (hj : j < cs.length) : (setCur cur k cs)[4 * k + j]? = cs[j]? := by
  have e1 : (cur.toList.take (4 * k)).length = 4 * k := by rw [List.length_take]; simp; omega
  unfold setCur
  rw [List.getElem?_toArray, List.append_assoc, List.getElem?_append_right (by omega), e1, List.getElem?_append_left (by omega)]
  congr 1
  omega
theorem setCur_out (cur : Array Value) (k : Nat) (cs : List Value) (h : 4 * k + cs.length ≤ cur.size) (j : Nat) (hj : j < 4 * k ∨ 4 * k + cs.length ≤ j) : (setCur cur k cs)[j]? = cur[j]? := by
  have e1 : (cur.toList.take (4 * k)).length = 4 * k := by rw [List.length_take]; simp; omega
  unfold setCur
  rw [List.getElem?_toArray, List.append_assoc]
  rcases hj with hj | hj
  · rw [List.getElem?_append_left (by omega), List.getElem?_take, if_pos (by omega)]
    simp
  · rw [List.getElem?_append_right (by omega), e1, List.getElem?_append_right (by omega), List.getElem?_drop]
    simp
    congr 1
    omega
theorem size38 : (Tryd.prog.info? 39).map (·.size) = some 1 := by kernel_rfl

set_option maxRecDepth 100000 in
set_option maxHeartbeats 2000000 in
theorem set_prog (a b : Int) (g n cap : Nat) (x y : Int) (p0 p1 p2 p3 : Nat) (ha : In64 a) (hb : In64 b) (hn : n ≤ cap) (hc : cap ≤ maxLen) (w : World) (cur : Array Value) (hg : w.heap[g]? = some (.cells cur 39 (0, 0))) (hcur : n ≤ cur.size) (k : Nat) (hr : inB a b n x y = true) (hk : y * a + x = (k : Int)) (hk4 : 4 * k + 4 ≤ n) :
    Calls Tryd.prog 60 #[.agg #[.int .i64 a, .int .i64 b, .slice (some ⟨g, 0, none⟩) n cap], .int .i64 x, .int .i64 y, .agg #[.int .u16 (p0 : Nat), .int .u16 (p1 : Nat), .int .u16 (p2 : Nat), .int .u16 (p3 : Nat)]] w fun e w' =>
      e = .returned (.bool true) ∧ w.grownBy w' (some g) ∧ w'.heap[g]? = some (.cells (setCur cur k (pix4 p0 p1 p2 p3)) 39 (0, 0)) := by
  have HR := Lib.hid hr
  have hgl : g < w.heap.size := (Array.getElem?_eq_some_iff.1 hg).1
  unfold maxLen at hc
  clear hr
  go_enter Tryd.func60, Tryd.ntmps60
  go_wp2_with fail
  refine (at_prog a b _ n cap x y ha hb hn (by unfold maxLen; omega) _).mono ?_
  rintro e u1 ⟨hB, i, rfl, hi⟩
  obtain rfl := hi HR.out
  rw [HR.out, hk]
  have hB0 := (((Below.refl _ w).alloc (Nat.le_refl _) _).alloc (by simp) _).trans (hB.mono (by simp; omega))
  have q0 := hp_below (hp_alloc _ (hp_new0 w _)) hB (by simp; omega)
  have q1 := hp_below (hp_new0 _ _) hB (by simp)
  rw [World.size_alloc] at q1
  have k2 := hp_cell (j := 2) q0 rfl
  have hg1 := hp_below hg hB0 hgl
  have hrun := run_copy_row (P := Tryd.prog) u1.drew 22 22 3 39 g (4 * k) (n - 4 * k) (cap - 4 * k) ⟨w.heap.size + 1, 0, none⟩ 4 4 cur _ (pix4 p0 p1 p2 p3) Tryd.underlying22 size38 hg1 (show 4 = Nat.min 4 (n - 4 * k) from (Nat.min_eq_left (by omega)).symm)
    (by
      intro j v hj
      match j, hj with
      | 0, hj => exact (hp_cell (j := 0) q1 rfl).trans hj
      | 1, hj => exact (hp_cell (j := 1) q1 rfl).trans hj
      | 2, hj => exact (hp_cell (j := 2) q1 rfl).trans hj
      | 3, hj => exact (hp_cell (j := 3) q1 rfl).trans hj) (by simp [pix4]; omega) (by simp [pix4, Value.oneCell'])
  have hgr : w.grownBy (u1.drew.setRow g (setCur cur k (pix4 p0 p1 p2 p3))) (some g) := ((grown_of_below hB0 _).trans (grown_drewS _ _)).trans (grown_setRow _ _ _)
  have hgh : (u1.drew.setRow g (setCur cur k (pix4 p0 p1 p2 p3))).heap[g]? = some (.cells (setCur cur k (pix4 p0 p1 p2 p3)) 39 (0, 0)) := setRow_heap _ _ _ _ _ _ hg1
  have HG := Lib.hid hgr
  have HH := Lib.hid hgh
  have hl4 : (pix4 p0 p1 p2 p3).length = 4 := rfl
  change _ = Result.ok _ (u1.drew.setRow g (setCur cur k (pix4 p0 p1 p2 p3))) at hrun
  rw [hl4] at hrun
  clear hB hB0 q0 q1 hg hg1 hgr hgh hl4
  have hck : ¬cap = 4 * k := by omega
  go_wp2
  go_region
  all_goals go_wp2
  all_goals go_ret
  all_goals exact ⟨rfl, HG.out, HH.out⟩

set_option maxRecDepth 100000 in
set_option maxHeartbeats 2000000 in
theorem set_no (a b : Int) (A : Option Addr) (n cap : Nat) (x y : Int) (p0 p1 p2 p3 : Nat) (ha : In64 a) (hb : In64 b) (hn : n ≤ cap) (hc : cap ≤ maxLen) (w : World) (hr : inB a b n x y = false) :
    Calls Tryd.prog 60 #[.agg #[.int .i64 a, .int .i64 b, .slice A n cap], .int .i64 x, .int .i64 y, .agg #[.int .u16 (p0 : Nat), .int .u16 (p1 : Nat), .int .u16 (p2 : Nat), .int .u16 (p3 : Nat)]] w fun e w' =>
      e = .returned (.bool false) ∧ Below w.heap.size w w' := by
  have HR := Lib.hid hr
  clear hr
  go_enter Tryd.func60, Tryd.ntmps60
  go_wp2_with fail
  refine (at_prog a b _ n cap x y ha hb hn hc _).mono ?_
  rintro e u1 ⟨hB, i, rfl, hi⟩
  rw [HR.out]
  clear hi
  have HB := Lib.hid ((((Below.refl _ w).alloc (Nat.le_refl _) _).alloc (by simp) _).trans (hB.mono (by simp; omega)))
  clear hB
  go_wp2
  go_ret
  exact ⟨rfl, HB.out⟩
end Go.Proofs.YthgafdbdmemkhaaDoor

namespace Go.Proofs.YthgafdbdmemkhaaDoor
set_option maxRecDepth 100000
set_option linter.unusedVariables false
open Go.ChangeShapes Go.WideShapes Go.ChangeAt Go.RowKit Go.Shelf
open Go.Maps (addKey)

abbrev P4 := Nat × Nat × Nat × Nat
def p4 (c : Nat → Nat) (i : Nat) : P4 := (c (4 * i), c (4 * i + 1), c (4 * i + 2), c (4 * i + 3))
def ll (c : Nat → Nat) (N : Nat) : List P4 := (List.range N).map (p4 c)
def addP (acc : List P4) (x : P4) : List P4 := if x ∈ acc then acc else acc ++ [x]
/-- The unlike ones, in the order in which they first come. -/
def uni (l : List P4) : List P4 := l.foldl addP []
def w4 (p : P4) : Prop := p.1 < 65536 ∧ p.2.1 < 65536 ∧ p.2.2.1 < 65536 ∧ p.2.2.2 < 65536
def lits4 (p : P4) : List Lit := [.int .u16 (p.1 : Nat), .int .u16 (p.2.1 : Nat), .int .u16 (p.2.2.1 : Nat), .int .u16 (p.2.2.2 : Nat)]
def klP (p : P4) : Lit := .string (keyBytes (lits4 p))
theorem kl_p4 (c : Nat → Nat) (i : Nat) : kl c i = klP (p4 c i) := rfl
theorem w4_p4 {c : Nat → Nat} (hc : ∀ i, c i < 65536) (i : Nat) : w4 (p4 c i) := ⟨hc _, hc _, hc _, hc _⟩
theorem klP_inj {p q : P4} (hp : w4 p) (hq : w4 q) (h : klP p = klP q) : p = q := by
  obtain ⟨a, b, c, d⟩ := p
  obtain ⟨a', b', c', d'⟩ := q
  obtain ⟨h1, h2, h3, h4⟩ := hp
  obtain ⟨k1, k2, k3, k4⟩ := hq
  unfold klP at h
  injection h with h
  have e := keyBytes_inj (l := lits4 (a, b, c, d)) (l' := lits4 (a', b', c', d')) (by simp [Alike, lits4, Lit.sameKind])
    (by intro x hx; simp [lits4] at hx; rcases hx with rfl | rfl | rfl | rfl <;> exact wf16 ‹_›)
    (by intro x hx; simp [lits4] at hx; rcases hx with rfl | rfl | rfl | rfl <;> exact wf16 ‹_›) h
  simp [lits4] at e
  obtain ⟨e1, e2, e3, e4⟩ := e
  simp; omega
theorem any_same {acc : List P4} {x : P4} (ha : ∀ y ∈ acc, w4 y) (hx : w4 x) : (acc.map klP).any (fun y => y.sameKey (klP x)) = decide (x ∈ acc) := by
  rw [Bool.eq_iff_iff]
  simp only [List.any_map, List.any_eq_true, decide_eq_true_eq, Function.comp]
  constructor
  · rintro ⟨y, hy, h⟩
    have : klP y = klP x := by simpa [klP, Lit.sameKey] using h
    rwa [← klP_inj (ha y hy) hx this]
  · intro h
    exact ⟨x, h, by simp [klP, Lit.sameKey]⟩
theorem fold_klP (l : List P4) : ∀ acc : List P4, (∀ y ∈ l, w4 y) → (∀ y ∈ acc, w4 y) → (l.map klP).foldl addKey (acc.map klP) = (l.foldl addP acc).map klP := by
  induction l with
  | nil => intro acc _ _; rfl
  | cons x l ih =>
    intro acc hl ha
    have e : addKey (acc.map klP) (klP x) = (addP acc x).map klP := by
      unfold addKey addP
      rw [any_same ha (hl x (by simp))]
      by_cases h : x ∈ acc <;> simp [h]
    simp only [List.map_cons, List.foldl_cons]
    rw [e]
    refine ih _ (fun y hy => hl y (by simp [hy])) ?_
    intro y hy
    unfold addP at hy
    split at hy
    · exact ha y hy
    · simp at hy
      rcases hy with hy | rfl
      · exact ha y hy
      · exact hl _ (by simp)
theorem cnt_uni {c : Nat → Nat} (hc : ∀ i, c i < 65536) (N : Nat) : cnt (kls c N) = (uni (ll c N)).length := by
  have e : kls c N = (ll c N).map klP := by unfold kls ll; rw [List.map_map]; rfl
  unfold cnt uni
  rw [e]
  have := fold_klP (ll c N) [] (by
    intro y hy
    obtain ⟨i, _, rfl⟩ := List.mem_map.1 hy
    exact w4_p4 hc i) (by simp)
  rw [List.map_nil] at this
  rw [this, List.length_map]
theorem uni_nodup_aux (l : List P4) : ∀ acc : List P4, (acc ++ l).Nodup → l.foldl addP acc = acc ++ l := by
  induction l with
  | nil => intro acc _; simp
  | cons x l ih =>
    intro acc h
    have hx : x ∉ acc := by
      intro hx
      rw [List.nodup_append] at h
      exact h.2.2 x hx x (by simp) rfl
    have e : addP acc x = acc ++ [x] := by unfold addP; rw [if_neg hx]
    rw [List.foldl_cons, e, ih _ (by rw [List.append_assoc]; exact h), List.append_assoc]
    rfl
theorem uni_nodup {l : List P4} (h : l.Nodup) : uni l = l := by
  unfold uni
  rw [uni_nodup_aux l [] (by simpa using h)]
  rfl
end Go.Proofs.YthgafdbdmemkhaaDoor

namespace Go.Proofs.YthgafdbdmemkhaaDoor
set_option maxRecDepth 100000
set_option linter.unusedVariables false
open Go.ChangeShapes Go.WideShapes Go.ChangeAt Go.RowKit

def vP (p : P4) : Value := .agg #[.int .u16 (p.1 : Nat), .int .u16 (p.2.1 : Nat), .int .u16 (p.2.2.1 : Nat), .int .u16 (p.2.2.2 : Nat)]
theorem run_isAgg38 (w : World) : (isAgg 39).run Tryd.prog w = .ok false w := by kernel_rfl
theorem run_sizeOf38 (w : World) : (sizeOf 39).run Tryd.prog w = .ok 1 w := by kernel_rfl
theorem range4 : List.range' 0 4 = [0, 1, 2, 3] := rfl
set_option maxRecDepth 100000 in
theorem run_eq41 (d : Nat) (a0 a1 a2 a3 b0 b1 b2 b3 : Int) (w : World) :
    (Op.equalIn (d + 2) 45 (.agg #[.int .u16 a0, .int .u16 a1, .int .u16 a2, .int .u16 a3]) (.agg #[.int .u16 b0, .int .u16 b1, .int .u16 b2, .int .u16 b3])).run Tryd.prog w
      = .ok (a0 == b0 && (a1 == b1 && (a2 == b2 && a3 == b3))) w := by
  have e : ∀ (x y : Int) W, (Op.equalIn (d + 1) 39 (.int .u16 x) (.int .u16 y)).run Tryd.prog W = .ok (x == y) W := fun x y W => run_equalIn_int W d 39 .u16 .u16 x y Tryd.underlying39
  rw [Op.equalIn]
  simp only [Sem.run_bind, run_underlying Tryd.underlying45, Result.andThen_ok, run_sizeOf38, part]
  simp [range4, Std.Legacy.Range.forIn_eq_forIn_range', Std.Legacy.Range.size, List.forIn_cons, e]
  by_cases h0 : a0 = b0 <;> by_cases h1 : a1 = b1 <;> by_cases h2 : a2 = b2 <;> by_cases h3 : a3 = b3 <;> simp [h0, h1, h2, h3]
set_option maxRecDepth 100000 in
theorem run_eqP (p q : P4) (w : World) : (Op.equalIn 10000 45 (.agg #[.int .u16 (p.1 : Nat), .int .u16 (p.2.1 : Nat), .int .u16 (p.2.2.1 : Nat), .int .u16 (p.2.2.2 : Nat)]) (.agg #[.int .u16 (q.1 : Nat), .int .u16 (q.2.1 : Nat), .int .u16 (q.2.2.1 : Nat), .int .u16 (q.2.2.2 : Nat)])).run Tryd.prog w
    = .ok (decide (p = q)) w := by
  have h := run_eq41 9998 p.1 p.2.1 p.2.2.1 p.2.2.2 q.1 q.2.1 q.2.2.1 q.2.2.2 w
  rw [show 10000 = 9998 + 2 from rfl, h]
  congr 1
  obtain ⟨a, b, c, d⟩ := p
  obtain ⟨a', b', c', d'⟩ := q
  rw [Bool.eq_iff_iff]
  simp only [Bool.and_eq_true, beq_iff_eq, decide_eq_true_eq, Prod.mk.injEq]
  omega

/-! ### The list of unlike pixels, and each pixel's place -/
def U (c : Nat → Nat) (i : Nat) : List P4 := uni (ll c i)
theorem U_succ (c : Nat → Nat) (i : Nat) : U c (i + 1) = if p4 c i ∈ U c i then U c i else U c i ++ [p4 c i] := by
  unfold U ll
  rw [List.range_succ, List.map_append]
  unfold uni
  rw [List.foldl_append]
  rfl
theorem U_le (c : Nat → Nat) (i : Nat) : (U c i).length ≤ i := by
  induction i with
  | zero => simp [U, ll, uni]
  | succ i ih =>
    rw [U_succ]
    split
    · omega
    · simp; omega
theorem U_mono1 (c : Nat → Nat) (i : Nat) : (U c i).length ≤ (U c (i + 1)).length := by rw [U_succ]; split <;> simp
theorem U_mono (c : Nat → Nat) {i k : Nat} (h : i ≤ k) : (U c i).length ≤ (U c k).length := by
  obtain ⟨d, rfl⟩ := Nat.le.dest h
  clear h
  induction d with
  | zero => simp
  | succ d ih => exact Nat.le_trans ih (U_mono1 c (i + d))
def pl (c : Nat → Nat) (i : Nat) : List Nat := (List.range i).map fun j => (U c j).idxOf (p4 c j)
theorem pl_succ (c : Nat → Nat) (i : Nat) : pl c (i + 1) = pl c i ++ [(U c i).idxOf (p4 c i)] := by
  unfold pl
  rw [List.range_succ, List.map_append]
  rfl
theorem pl_len (c : Nat → Nat) (i : Nat) : (pl c i).length = i := by simp [pl]
def cP (p : P4) : List Value := [.int .u16 (p.1 : Nat), .int .u16 (p.2.1 : Nat), .int .u16 (p.2.2.1 : Nat), .int .u16 (p.2.2.2 : Nat)]
def cellsP (l : List P4) : List Value := l.flatMap cP
theorem cellsP_len (l : List P4) : (cellsP l).length = l.length * 4 := by
  induction l with
  | nil => rfl
  | cons p l ih =>
    show (cP p ++ cellsP l).length = _
    rw [List.length_append, ih]
    simp [cP]
    omega
theorem cellsP_get (l : List P4) (k : Nat) (p : P4) (h : l[k]? = some p) (j : Nat) (hj : j < 4) : (cellsP l)[k * 4 + j]? = (cP p)[j]? := by
  induction l generalizing k with
  | nil => simp at h
  | cons q l ih =>
    show (cP q ++ cellsP l)[k * 4 + j]? = _
    cases k with
    | zero =>
      simp at h
      subst h
      rw [List.getElem?_append_left (by simp [cP]; omega)]
      simp
    | succ k =>
      rw [List.getElem?_append_right (by simp [cP]; omega)]
      have e : (k + 1) * 4 + j - (cP q).length = k * 4 + j := by simp [cP]; omega
      rw [e]
      exact ih k (by simpa using h)
theorem cellsP_snoc (l : List P4) (p : P4) : cellsP (l ++ [p]) = cellsP l ++ cP p := by simp [cellsP]
theorem cP_one (p : P4) : ∀ u ∈ cP p, u.oneCell' = true := by intro u hu; simp [cP] at hu; rcases hu with rfl | rfl | rfl | rfl <;> rfl
def cellsI (l : List Nat) : List Value := l.map fun n => .int .i64 (n : Nat)
theorem cellsI_snoc (l : List Nat) (n : Nat) : cellsI (l ++ [n]) = cellsI l ++ [.int .i64 (n : Nat)] := by simp [cellsI]
theorem idx_found {l : List P4} {p : P4} {k : Nat} (h : l[k]? = some p) (hn : ∀ j, j < k → l[j]? ≠ some p) : l.idxOf p = k ∧ p ∈ l := by
  induction l generalizing k with
  | nil => simp at h
  | cons q l ih =>
    cases k with
    | zero => simp at h; subst h; simp
    | succ k =>
      have h0 : q ≠ p := by have := hn 0 (by omega); simpa using this
      have h1 := ih (k := k) (by simpa using h) (fun j hj => by have := hn (j + 1) (by omega); simpa using this)
      refine ⟨?_, by simp [h1.2]⟩
      have e9 : (q == p) = false := beq_eq_false_iff_ne.2 h0
      rw [List.idxOf_cons, e9, h1.1]
      rfl
theorem idx_none {l : List P4} {p : P4} (hn : ∀ j, j < l.length → l[j]? ≠ some p) : l.idxOf p = l.length ∧ p ∉ l := by
  have h : p ∉ l := by
    intro h
    obtain ⟨j, hj, e⟩ := List.getElem_of_mem h
    exact hn j hj (by rw [List.getElem?_eq_getElem hj, e])
  exact ⟨List.idxOf_eq_length h, h⟩
end Go.Proofs.YthgafdbdmemkhaaDoor

namespace Go.Proofs.YthgafdbdmemkhaaDoor
set_option maxRecDepth 100000
set_option linter.unusedVariables false
open Go.ChangeShapes Go.WideShapes Go.ChangeAt Go.RowKit

theorem info41 : (Tryd.prog.info? 45).map (fun i => (i.zero, i.size, i.bytes)) = some (some (.agg #[.int .u16 0, .int .u16 0, .int .u16 0, .int .u16 0]), 4, 8) := by kernel_rfl
theorem info3 : (Tryd.prog.info? 3).map (fun i => (i.zero, i.size, i.bytes)) = some (some (.int .i64 0), 1, 8) := by kernel_rfl

def listPost (c : Nat → Nat) (N : Nat) (most : Int) (w : World) (e : Ending) (w' : World) : Prop :=
  (((U c N).length : Int) ≤ most ∧ ∃ v u, e = .returned (.tuple #[v, u, .bool true]) ∧ w'.ownsRow w.heap.size 45 4 v (U c N).length (cellsP (U c N)) ∧ w'.ownsRow w.heap.size 3 1 u N (cellsI (pl c N))) ∨
  (¬((U c N).length : Int) ≤ most ∧ e = .returned (.tuple #[.slice none 0 0, .slice none 0 0, .bool false]))

/-- The loop's state behind i pixels. -/
structure LS (c : Nat → Nat) (most : Int) (w : World) (a b : Int) (bk off n cap i : Nat) (v u : Value) (wr : World) : Prop where
  rv : wr.ownsRow (w.heap.size + 1) 45 4 v (U c i).length (cellsP (U c i))
  ru : wr.ownsRow (w.heap.size + 1) 3 1 u i (cellsI (pl c i))
  ne : v.ownBlock = none ∨ v.ownBlock ≠ u.ownBlock
  lim : 0 < i → ((U c i).length : Int) ≤ most
  below : Below w.heap.size w wr
  box : wr.heap[w.heap.size]? = some (.cells #[.int .i64 a, .int .i64 b, .slice (some ⟨bk, off, none⟩) n cap] 24 (0, 0))

theorem own_none {w w' : World} {base : Nat} {e : TypeId} {size n : Nat} {v : Value} {xs : List Value} (h : w.ownsRow base e size v n xs) (hb : Below w.heap.size w w') : w'.ownsRow base e size v n xs :=
  h.kept (grown_of_below hb none) (by cases v.ownBlock <;> simp)

theorem own_le' {w : World} {b b' : Nat} (h : b' ≤ b) {e : TypeId} {size n : Nat} {v : Value} {xs : List Value} (ho : w.ownsRow b e size v n xs) : w.ownsRow b' e size v n xs := by
  refine ⟨ho.1, ?_⟩
  rcases ho.2 with h1 | ⟨g, cap, cur, hv, hb, r⟩
  · exact .inl h1
  · exact .inr ⟨g, cap, cur, hv, Nat.le_trans h hb, r⟩
theorem own_ne {w : World} {base : Nat} {e : TypeId} {size n : Nat} {v u v' : Value} {xs : List Value} (hu : w.ownsRow base e size u n xs) (hne : v.ownBlock = none ∨ v.ownBlock ≠ u.ownBlock)
    (hat : v'.ownBlock = v.ownBlock ∨ v'.ownBlock = some w.heap.size) : v'.ownBlock = none ∨ v'.ownBlock ≠ u.ownBlock := by
  rcases hat with h | h
  · rw [h]; exact hne
  · refine .inr ?_
    rw [h]
    intro h2
    have := (hu.lt _ h2.symm).2
    omega
theorem LS.push {c : Nat → Nat} {most : Int} {w : World} {a b : Int} {bk off n cap i : Nat} {v u u' : Value} {W0 W1 : World} {k : Nat}
    (rv : W0.ownsRow (w.heap.size + 1) 45 4 v (U c (i + 1)).length (cellsP (U c (i + 1)))) (ru : W0.ownsRow (w.heap.size + 1) 3 1 u i (cellsI (pl c i)))
    (hne : v.ownBlock = none ∨ v.ownBlock ≠ u.ownBlock) (hlim : ((U c (i + 1)).length : Int) ≤ most) (hbel : Below w.heap.size w W0)
    (hbox : W0.heap[w.heap.size]? = some (.cells #[.int .i64 a, .int .i64 b, .slice (some ⟨bk, off, none⟩) n cap] 24 (0, 0)))
    (hown' : W1.ownsRow (w.heap.size + 1) 3 1 u' (i + 1) (cellsI (pl c i) ++ [.int .i64 (k : Nat)])) (hk : (U c i).idxOf (p4 c i) = k) (hgrow : W0.grownBy W1 u.ownBlock)
    (hat : u'.ownBlock = u.ownBlock ∨ u'.ownBlock = some W0.heap.size) : LS c most w a b bk off n cap (i + 1) v u' W1 := by
  have hub : ∀ g, u.ownBlock = some g → w.heap.size + 1 ≤ g := fun g hg => (ru.lt g hg).1
  refine ⟨rv.kept hgrow hne, ?_, ?_, fun _ => hlim, hbel.grown hgrow hbel.size (fun g hg => by have := hub g hg; omega), ?_⟩
  · rw [pl_succ, cellsI_snoc, hk]; exact hown'
  · rcases hne with h | h
    · exact .inl h
    · by_cases h0 : v.ownBlock = none
      · exact .inl h0
      · refine .inr ?_
        rcases hat with h2 | h2
        · rw [h2]; exact h
        · rw [h2]
          intro h3
          have := (rv.lt _ h3).2
          omega
  · have hlt := (Array.getElem?_eq_some_iff.1 hbox).1
    exact (hgrow.block _ hlt (fun e => by have := hub _ e.symm; omega)).trans hbox
theorem one_new {w : World} {x : Value} {t : TypeId} (n : Nat) {j : Nat} {u : Value} (h : [x][j]? = some u) : ((w.drewN n).alloc (.cells #[x] t)).cell? ((⟨w.heap.size, 0, none⟩ : Addr).add j) = some u := by
  cases j with
  | zero => simp at h; subst h; exact hp_cell (j := 0) (hp_new0 (w.drewN n) (.cells #[x] t)) rfl
  | succ j => simp at h
theorem four_newP {w : World} {p : P4} (n : Nat) {j : Nat} {u : Value} (h : (cP p)[j]? = some u) : ((w.drewN n).alloc (.cells #[.int .u16 (p.1 : Nat), .int .u16 (p.2.1 : Nat), .int .u16 (p.2.2.1 : Nat), .int .u16 (p.2.2.2 : Nat)] 45)).cell? ((⟨w.heap.size, 0, none⟩ : Addr).add j) = some u := by
  rw [Addr.add_lit, Nat.zero_add]
  have h2 : (cP p).toArray[j]? = some u := by rw [List.getElem?_toArray]; exact h
  exact hp_cell (hp_new0 (w.drewN n) (.cells (cP p).toArray 45)) h2
theorem ne_snoc {L : List P4} {p q : P4} {k : Nat} (h : ∀ j, j < k → L[j]? ≠ some p) (hq : L[k]? = some q) (hne : ¬q = p) : ∀ j, j < k + 1 → L[j]? ≠ some p := by
  intro j hj
  by_cases e : j = k
  · subst e
    rw [hq]
    intro h2
    injection h2 with h2
    exact hne h2
  · exact h j (by omega)
set_option maxRecDepth 100000 in
set_option maxHeartbeats 4000000 in
theorem list_ref (a b : Int) (bk off cap : Nat) (c : Nat → Nat) (hc : ∀ i, c i < 65536) (N : Nat) (most : Int) (ha : In64 a) (hb : In64 b) (hm : mayB a b (4 * N) = true) (hN1 : 1 ≤ N) (hN2 : N ≤ 16384) (hcap : 4 * N ≤ cap) (hmax : cap ≤ maxLen)
    (w : World) (hbk : bk < w.heap.size) (hcells : ∀ j, j < 4 * N → w.cell? ⟨bk, off + j, none⟩ = some (.int .u16 (c j : Nat))) :
    Calls Tryd.prog 20 #[.agg #[.int .i64 a, .int .i64 b, .slice (some ⟨bk, off, none⟩) (4 * N) cap], .int .i64 most] w fun e w' => listPost c N most w e w' ∧ Below w.heap.size w w' := by
  obtain ⟨i41, hi41, hz410, hz411, hz412⟩ := info_parts info41
  obtain ⟨i3, hi3, hz30, hz31, hz32⟩ := info_parts info3
  obtain ⟨hz, hab⟩ := may_ok hm
  obtain ⟨q1, q2, q3, q4, q5⟩ := size_ok hz
  have hab2 : a * b = (N : Int) := by rw [Int.mul_assoc] at hab; omega
  have hw : wrap64 (a * b) = (N : Int) := (IntWalk.wrap64_in _ (by omega)).trans hab2
  unfold maxLen at hmax
  clear hz hab hab2
  go_enter Tryd.func20, Tryd.ntmps20
  go_wp2_with fail
  go_loopw [7, 8, 9] (fun v u x wr => ∃ i : Nat, i ≤ N ∧ x = .int .i64 i ∧ LS c most w a b bk off (4 * N) cap i v u wr) (fun _ _ x _ => N - (intOf x).toNat)
  case atStart => exact ⟨0, by omega, rfl, ⟨World.ownsRow_nil _ _ _ _, World.ownsRow_nil _ _ _ _, .inl rfl, fun h => absurd h (by omega), (Below.refl _ _).alloc (Nat.le_refl _) _, hp_new0 _ _⟩⟩
  case round =>
    obtain ⟨i, hi, rfl, hS⟩ := hrel
    have k0 := hp_cell (j := 0) hS.box rfl
    have k1 := hp_cell (j := 1) hS.box rfl
    have k2 := hp_cell (j := 2) hS.box rfl
    by_cases hlt : i < N
    · have hSz : w.heap.size < wr.heap.size := (Array.getElem?_eq_some_iff.1 hS.box).1
      have hbkr : bk < wr.heap.size := Nat.lt_of_lt_of_le hbk hS.below.size
      have hcs : ∀ j, j < 4 → wr.cell? ⟨bk, off + 4 * i + j, none⟩ = (cP (p4 c i))[j]? := fun j hj => by
        have h1 := (hS.below.cell (p := ⟨bk, off + (4 * i + j), none⟩) hbk).trans (hcells (4 * i + j) (by omega))
        rw [← Nat.add_assoc] at h1
        rw [h1]
        obtain rfl | rfl | rfl | rfl : j = 0 ∨ j = 1 ∨ j = 2 ∨ j = 3 := by omega
        all_goals rfl
      have hbel : Below wr.heap.size wr (wr.alloc (.cells #[.int .u16 0, .int .u16 0, .int .u16 0, .int .u16 0] 45)).drew := ((Below.refl _ _).alloc (Nat.le_refl _) _).drew
      have hZ : (wr.alloc (.cells #[.int .u16 0, .int .u16 0, .int .u16 0, .int .u16 0] 45)).drew.heap[wr.heap.size]? = some (.cells #[.int .u16 0, .int .u16 0, .int .u16 0, .int .u16 0] 45 (0, 0)) := hp_new0 wr _
      have kn2 := hp_cell (j := 2) (hp_alloc (.cells #[.int .u16 0, .int .u16 0, .int .u16 0, .int .u16 0] 45) hS.box) rfl
      have hrun := run_copy_row (P := Tryd.prog) (wr.alloc (.cells #[.int .u16 0, .int .u16 0, .int .u16 0, .int .u16 0] 45)).drew 22 22 3 39 wr.heap.size 0 4 4 ⟨bk, off + 4 * i, none⟩ (4 * N - 4 * i) (cap - 4 * i) _ _ (cP (p4 c i)) Tryd.underlying22 size38 hZ
        (show 4 = Nat.min (4 * N - 4 * i) 4 from (Nat.min_eq_right (by omega)).symm)
        (by
          intro j v hj
          have hj4 : j < 4 := by have := (List.getElem?_eq_some_iff.1 hj).1; simpa [cP] using this
          rw [Addr.add_lit]
          exact (hbel.cell (p := ⟨bk, off + 4 * i + j, none⟩) hbkr).trans ((hcs j hj4).trans hj)) (by simp [cP]) (cP_one _)
      change _ = Result.ok _ ((wr.alloc (.cells #[.int .u16 0, .int .u16 0, .int .u16 0, .int .u16 0] 45)).drew.setRow wr.heap.size (cP (p4 c i)).toArray) at hrun
      have hck : ¬cap = 4 * i := by omega
      have hlI : (4 : Int) * (i : Int) + 4 ≤ 4 * (N : Int) := by omega
      have hb2 : Below wr.heap.size wr ((wr.alloc (.cells #[.int .u16 0, .int .u16 0, .int .u16 0, .int .u16 0] 45)).drew.setRow wr.heap.size (cP (p4 c i)).toArray) := below_setRow hbel (Nat.le_refl _) _
      have hh2 : ((wr.alloc (.cells #[.int .u16 0, .int .u16 0, .int .u16 0, .int .u16 0] 45)).drew.setRow wr.heap.size (cP (p4 c i)).toArray).heap[wr.heap.size]? = some (.cells (cP (p4 c i)).toArray 45 (0, 0)) := setRow_heap _ _ _ _ _ _ hZ
      have HB2 := Lib.hid hb2
      have HH2 := Lib.hid hh2
      have HS := Lib.hid hS
      clear hb2 hh2 hS hbel hZ hcs
      go_wp2_with fail
      go_region
      generalize (wr.alloc (.cells #[.int .u16 0, .int .u16 0, .int .u16 0, .int .u16 0] 45)).drew.setRow wr.heap.size (cP (p4 c i)).toArray = W2 at *
      obtain ⟨rv, ru, hne, hlim, hbel, hbox⟩ := HS.out
      have rv2 := own_none rv HB2.out
      have ru2 := own_none ru HB2.out
      have hbel2 := hbel.trans (HB2.out.mono hbel.size)
      have hbox2 := hp_below hbox HB2.out hSz
      have hS2 : wr.heap.size < W2.heap.size := (Array.getElem?_eq_some_iff.1 HH2.out).1
      have hUs := U_succ c i
      have hps := pl_succ c i
      have hUm := U_mono c (show i + 1 ≤ N by omega)
      have hLi := U_le c i
      have hp16 := p4 c i
      clear rv ru hbel hbox HS k0 k1 k2 kn2 hrun HB2
      generalize hL : U c i = L at *
      generalize hp : p4 c i = p at *
      have HLp := Lib.hid hL
      have HPp := Lib.hid hp
      clear hp16
      obtain ⟨_, A, cv, rfl, hcv1, hcv2, hcv3⟩ := Sl.of_own rv2
      have HUs := Lib.hid hUs
      have Hps := Lib.hid hps
      clear hUs hps hcv3 hL hp
      go_wp2_with fail
      go_loopw [11] (fun x wr2 => ∃ k : Nat, k ≤ L.length ∧ x = .int .i64 k ∧ (∀ j, j < k → L[j]? ≠ some p) ∧ Below W2.heap.size W2 wr2) (fun x _ => L.length - (intOf x).toNat)
      case atStart => exact ⟨0, by omega, rfl, fun j hj => absurd hj (by omega), Below.refl _ _⟩
      case round =>
        rename World => wr2
        obtain ⟨k, hk, rfl, hnot, hB3⟩ := hrel
        have hpb := hp_below HH2.out hB3 hS2
        have p0 : wr2.cell? ⟨wr.heap.size, 0, none⟩ = some (.int .u16 (p.1 : Nat)) := hp_cell (j := 0) hpb rfl
        have p1 : wr2.cell? ⟨wr.heap.size, 1, none⟩ = some (.int .u16 (p.2.1 : Nat)) := hp_cell (j := 1) hpb rfl
        have p2 : wr2.cell? ⟨wr.heap.size, 2, none⟩ = some (.int .u16 (p.2.2.1 : Nat)) := hp_cell (j := 2) hpb rfl
        have p3 : wr2.cell? ⟨wr.heap.size, 3, none⟩ = some (.int .u16 (p.2.2.2 : Nat)) := hp_cell (j := 3) hpb rfl
        have HN := Lib.hid hnot
        clear hnot
        by_cases hkl : k < L.length
        · obtain ⟨q, hq⟩ : ∃ q, L[k]? = some q := ⟨L[k], List.getElem?_eq_getElem hkl⟩
          obtain ⟨gb, go, he, hgl, hgc⟩ := ((Sl.of_own rv2).below hB3).cell (by omega)
          subst he
          have hqc : ∀ j, j < 4 → wr2.cell? ⟨gb, go + k * 4 + j, none⟩ = (cP q)[j]? := fun j hj => by
            rw [Nat.add_assoc, hgc (k * 4 + j) (by omega), cellsP_get L k q hq j hj]
          have c0 : wr2.cell? ⟨gb, go + k * 4, none⟩ = some (.int .u16 (q.1 : Nat)) := hqc 0 (by omega)
          have c1 : wr2.cell? ⟨gb, go + k * 4 + 1, none⟩ = some (.int .u16 (q.2.1 : Nat)) := hqc 1 (by omega)
          have c2 : wr2.cell? ⟨gb, go + k * 4 + 2, none⟩ = some (.int .u16 (q.2.2.1 : Nat)) := hqc 2 (by omega)
          have c3 : wr2.cell? ⟨gb, go + k * 4 + 3, none⟩ = some (.int .u16 (q.2.2.2 : Nat)) := hqc 3 (by omega)
          have HQ := Lib.hid hq
          clear hq hqc hgc
          by_cases hqp : q = p
          · have hE := fun W => run_eqP q p W
            rw [show decide (q = p) = true from by simp [hqp]] at hE
            have hd : decide (k < L.length) = true := by simpa using hkl
            have hq2 := HQ.out
            rw [hqp] at hq2
            have HQ2 := Lib.hid hq2
            clear hqp hq2
            go_wp2_with fail
            go_quiet (fail)
            have hB4 : ∀ n, Below W2.heap.size W2 (wr2.drewN n) := fun n => below_drewN hB3 n
            have hru3 : ∀ n, (wr2.drewN n).ownsRow (w.heap.size + 1) 3 1 _ i (cellsI (pl c i)) := fun n => own_none ru2 (hB4 n)
            have hkk : ((k : Int) == (L.length : Int)) = false := by rw [beq_eq_false_iff_ne]; omega
            go_wp2_with (at_builtin; refine wpList_append_own_at _ rfl _ _ 40 rfl (w.heap.size + 1) 3 i3 _ 1 8 Tryd.underlying40 hi3 hz30 hz31 hz32 rfl (by decide) _ _ _ rfl ((hru3 _).alloc _) ⟨wr2.heap.size, 0, none⟩ 1 1 [.int .i64 (k : Nat)] rfl rfl ?c1 ?c2 ?c3 ?c4 ?c5 ?_)
            case c1 => exact fun j u h => one_new _ h
            case c2 => intro u hu; simp at hu; subst hu; rfl
            case c3 => unfold maxLen; omega
            case c4 => omega
            case c5 => have h1 := hbel2.size; have h2 := (hB4 nq).size; simp at h2 ⊢; omega
            intro u2 w1 hown' hgrow _ hat
            have hi0 : 0 < i := by omega
            have hid := idx_found HQ2.out HN.out
            have hUi : U c (i + 1) = L := by rw [HUs.out, if_pos hid.2]
            have hb4 := hB4 nq
            have hal := hb4.alloc hb4.size (.cells #[.int .i64 (k : Nat)] 3)
            have HR := Lib.hid (LS.push (c := c) (most := most) (i := i) (by rw [hUi]; exact own_none rv2 hal) (own_none ru2 hal) hne (by rw [hUi]; exact hlim hi0) (hbel2.trans (hal.mono hbel2.size)) (hp_below hbox2 hal (by omega)) hown' (by rw [HLp.out, HPp.out]; exact hid.1) hgrow (by rcases hat with h | h; exact .inl h; exact .inr (by rw [h]; simp)))
            clear hown' hgrow hat hal hb4 hid hUi
            go_wp2_with fail
            go_roundw
            case rel => exact ⟨i + 1, by omega, by go_num, HR.out⟩
            case measure => simp [intOf]; omega
          · have hE := fun W => run_eqP q p W
            rw [show decide (q = p) = false from by simp [hqp]] at hE
            have hd : decide (k < L.length) = true := by simpa using hkl
            have HQP := Lib.hid hqp
            clear hqp
            go_wp2_with fail
            go_quiet (fail)
            go_wp2_with fail
            go_roundw
            case rel => exact ⟨k + 1, by omega, by go_num, ne_snoc HN.out HQ.out HQP.out, below_drewN hB3 _⟩
            case measure => simp [intOf]; omega
        · obtain rfl : k = L.length := by omega
          have hid := idx_none HN.out
          have hUi : U c (i + 1) = L ++ [p] := by rw [HUs.out, if_neg hid.2]
          have hUl : (U c (i + 1)).length = L.length + 1 := by rw [hUi]; simp
          have HID := Lib.hid hid
          have HUI := Lib.hid hUi
          have HUL := Lib.hid hUl
          have hB4 : ∀ n, Below W2.heap.size W2 (wr2.drewN n) := fun n => below_drewN hB3 n
          have hd : decide (L.length < L.length) = false := by simp
          rw [hUl] at hUm
          clear hid hUi hUl
          by_cases hge : most ≤ (L.length : Int)
          · have HF := Lib.hid (show ¬((U c N).length : Int) ≤ most by omega)
            have HB := Lib.hid (fun n => hbel2.trans ((hB4 n).mono hbel2.size))
            go_wp2_with fail
            go_quiet (fail)
            go_wp2_with fail
            go_ret3
            exact ⟨.inr ⟨by have := HF.out; omega, rfl⟩, HB.out _⟩
          · have hrv3 : ∀ n, (wr2.drewN n).ownsRow (w.heap.size + 1) 45 4 _ L.length (cellsP L) := fun n => own_none rv2 (hB4 n)
            go_wp2_with fail
            go_quiet (fail)
            go_wp2_with (at_builtin; refine wpList_append_own_at _ rfl _ _ 51 rfl (w.heap.size + 1) 45 i41 _ 4 8 Tryd.underlying51 hi41 hz410 hz411 hz412 rfl (by decide) _ _ _ rfl ((hrv3 _).alloc _) ⟨wr2.heap.size, 0, none⟩ 1 1 (cP p) rfl rfl ?c1 ?c2 ?c3 ?c4 ?c5 ?_)
            case c1 => exact fun j u h => four_newP _ h
            case c2 => exact cP_one p
            case c3 => unfold maxLen; omega
            case c4 => omega
            case c5 => have h1 := hbel2.size; have h2 := (hB4 nq).size; simp at h2 ⊢; omega
            intro v2 w1 hown' hgrow _ hat
            have hb4 := hB4 nq
            have hal := hb4.alloc hb4.size (.cells #[.int .u16 (p.1 : Nat), .int .u16 (p.2.1 : Nat), .int .u16 (p.2.2.1 : Nat), .int .u16 (p.2.2.2 : Nat)] 45)
            have rv0 := own_none rv2 hal
            have ru0 := own_none ru2 hal
            have rva : ∀ g, Value.ownBlock (.slice A L.length cv) = some g → w.heap.size + 1 ≤ g := fun g hg => (rv0.lt g hg).1
            have ru1 := ru0.kept hgrow (by
              rcases hne with h | h
              · rw [h]; cases Value.ownBlock u8 <;> simp
              · exact .inr (Ne.symm h))
            have hne1 := own_ne ru0 hne (by rcases hat with h | h; exact .inl h; exact .inr (by rw [h]; simp))
            have hbel1 := (hbel2.trans (hal.mono hbel2.size)).grown hgrow (Nat.le_trans hbel2.size hal.size) (fun g hg => by have := rva g hg; omega)
            have hbox1 := (hgrow.block _ (Nat.lt_of_lt_of_le (by omega) hal.size) (fun e => by have := rva _ e.symm; omega)).trans (hp_below hbox2 hal (by omega))
            have hs1 : wr2.heap.size + 1 ≤ w1.heap.size := by have := hgrow.size; simp at this; exact this
            have hs2 : w.heap.size + 1 ≤ w1.heap.size := by have h1 := hbel2.size; have h2 := hb4.size; simp at h2; omega
            clear hgrow hat hal hb4 rv0 ru0 rva hrv3
            go_wp2_with (at_builtin; refine wpList_append_own_at _ rfl _ _ 40 rfl (w.heap.size + 1) 3 i3 _ 1 8 Tryd.underlying40 hi3 hz30 hz31 hz32 rfl (by decide) _ _ _ rfl (ru1.alloc _) ⟨w1.heap.size, 0, none⟩ 1 1 [.int .i64 (L.length : Nat)] rfl rfl ?c1 ?c2 ?c3 ?c4 ?c5 ?_)
            case c1 => exact fun j u h => one_new (w := w1) 0 h
            case c2 => intro u hu; simp at hu; subst hu; rfl
            case c3 => unfold maxLen; omega
            case c4 => omega
            case c5 => simp; omega
            intro u2 w3 hown3 hgrow3 _ hat3
            have hal1 := (Below.refl w1.heap.size w1).alloc (Nat.le_refl _) (.cells #[.int .i64 (L.length : Nat)] 3)
            have HR := Lib.hid (LS.push (c := c) (most := most) (i := i) (by rw [HUL.out, HUI.out, cellsP_snoc]; exact own_none hown' hal1) (own_none ru1 hal1) hne1 (by rw [HUL.out]; omega) (hbel1.trans (hal1.mono hbel1.size)) (hp_below hbox1 hal1 (by omega)) hown3 (by rw [HLp.out, HPp.out]; exact HID.out.1) hgrow3 (by rcases hat3 with h | h; exact .inl h; exact .inr (by rw [h]; simp)))
            clear hown' hown3 hgrow3 hat3 hal1 ru1 hne1 hbel1 hbox1
            go_wp2_with fail
            go_roundw
            case rel => exact ⟨i + 1, by omega, by go_num, HR.out⟩
            case measure => simp [intOf]; omega
    · obtain rfl : i = N := by omega
      have hlm := hS.lim (by omega)
      have hbe := hS.below
      have ⟨rv, ru, _, _, _, _⟩ := hS
      have HR := Lib.hid (show listPost c i most w (.returned (.tuple #[u7, u8, .bool true])) wr from .inl ⟨hlm, u7, u8, rfl, own_le' (by omega) rv, own_le' (by omega) ru⟩)
      clear hS rv ru
      go_wp2_with fail
      go_ret3
      exact ⟨HR.out, hbe⟩
end Go.Proofs.YthgafdbdmemkhaaDoor

namespace Go.Proofs.YthgafdbdmemkhaaDoor
set_option maxRecDepth 100000
set_option linter.unusedVariables false
open Go.ChangeShapes Go.WideShapes Go.ChangeAt Go.RowKit

theorem colN_U {c : Nat → Nat} (hc : ∀ i, c i < 65536) (N : Nat) (most : Int) : colN c N most = if most < ((U c N).length : Int) then 0 else ((U c N).length : Int) := by
  unfold colN; rw [cnt_uni hc]; rfl
theorem colB_U {c : Nat → Nat} (hc : ∀ i, c i < 65536) (N : Nat) (most : Int) : colB c N most = decide (((U c N).length : Int) ≤ most) := by
  unfold colB; rw [cnt_uni hc]; rfl

set_option maxRecDepth 100000 in
set_option maxHeartbeats 1000000 in
theorem col_no (a b : Int) (A : Option Addr) (n cap : Nat) (most : Int) (ha : In64 a) (hb : In64 b) (hm : mayB a b n = false) (hn : n ≤ cap) (hc : cap ≤ maxLen) (w : World) :
    Calls Tryd.prog 31 #[.agg #[.int .i64 a, .int .i64 b, .slice A n cap], .int .i64 most] w fun e w' => e = .returned (.tuple #[.int .i64 0, .bool false]) ∧ Below w.heap.size w w' := by
  have HM := Lib.hid hm
  clear hm
  obtain ⟨q0, q1, q2, q3, q4⟩ := four_boxes w #[.int .i64 a, .int .i64 b, .slice A n cap] (.int .i64 most) (.int .i64 0) (.bool false) 24 3 3 4
  go_enter Tryd.func31, Tryd.ntmps31
  go_wp2_with fail
  refine (may_prog a b A n cap ha hb hn hc _).mono ?_
  rintro e w2 ⟨rfl, hB2⟩
  rw [HM.out]
  have hS := hB2.size
  rw [q0] at hB2 hS
  have b2 := hp_below q3 hB2 (by omega)
  have b3 := hp_below q4 hB2 (by omega)
  have p2c := hp_cell (j := 0) b2 rfl
  have p3c := hp_cell (j := 0) b3 rfl
  have p2f : w2.frozen? ⟨w.heap.size + 1 + 1, 0, none⟩ = false := by simp [World.frozen?, b2]
  have p3f : w2.frozen? ⟨w.heap.size + 1 + 1 + 1, 0, none⟩ = false := by simp [World.frozen?, b3]
  have HBw := Lib.hid ((((((Below.refl _ w).alloc (Nat.le_refl _) _).alloc (by simp) _).alloc (by simp; omega) _).alloc (by simp; omega) _).trans (hB2.mono (by omega)) : Below w.heap.size w w2)
  clear q0 q1 q2 q3 q4 hB2 b2 b3
  go_wp2
  refine bodyPost_ret (v := .tuple #[.int .i64 0, .bool false]) (by rw [results_cell2 rfl]; go_simp) rfl ?_
  exact ⟨rfl, (HBw.out.setCell (p := ⟨w.heap.size + 1 + 1, 0, none⟩) (by simp; omega) _).setCell (p := ⟨w.heap.size + 1 + 1 + 1, 0, none⟩) (by simp; omega) _⟩

/-- Both at once, at whatever picture. -/
def colV (a b : Int) (n : Nat) (c : Nat → Nat) (most : Int) : Value := if mayB a b n = true then .tuple #[.int .i64 (colN c (n / 4) most), .bool (colB c (n / 4) most)] else .tuple #[.int .i64 0, .bool false]
theorem may_four {a b : Int} {n : Nat} (h : mayB a b n = true) : ∃ N, n = 4 * N ∧ 1 ≤ N ∧ N ≤ 16384 ∧ a * b = (N : Int) := by
  obtain ⟨hz, hn⟩ := may_ok h
  obtain ⟨q1, q2, q3, q4, q5⟩ := size_ok hz
  have h1 : 0 < a * b := Int.mul_pos (by omega) (by omega)
  rw [Int.mul_assoc] at hn
  exact ⟨(a * b).toNat, by omega, by omega, by omega, by omega⟩
theorem col_any (a b : Int) (A : Option Addr) (n cap : Nat) (c : Nat → Nat) (hc : ∀ i, c i < 65536) (most : Int) (ha : In64 a) (hb : In64 b) (hn : n ≤ cap) (hmax : cap ≤ maxLen) (w : World) (hP : Pix w A n c) :
    Calls Tryd.prog 31 #[.agg #[.int .i64 a, .int .i64 b, .slice A n cap], .int .i64 most] w fun e w' => e = .returned (colV a b n c most) ∧ Below w.heap.size w w' := by
  unfold colV
  by_cases h : mayB a b n = true
  · obtain ⟨N, rfl, h1, h2, h3⟩ := may_four h
    obtain ⟨bk, off, rfl, hbk, hcl⟩ := hP (by omega)
    rw [if_pos h, Nat.mul_div_cancel_left _ (by omega)]
    exact col_may a b bk off cap c hc N most ha hb h h1 h2 hn hmax w hbk hcl
  · rw [if_neg h]
    exact col_no a b A n cap most ha hb (by simpa using h) hn hmax w
theorem colV_form (a b : Int) (n : Nat) (c : Nat → Nat) (most : Int) : ∃ x y, colV a b n c most = .tuple #[.int .i64 x, .bool y] := by
  unfold colV; split <;> exact ⟨_, _, rfl⟩
end Go.Proofs.YthgafdbdmemkhaaDoor
