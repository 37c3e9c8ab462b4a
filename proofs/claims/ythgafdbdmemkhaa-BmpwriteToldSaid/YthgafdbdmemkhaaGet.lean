/- raster.At: a pixel. -/
import Derived.Test.YthgafdbdmemkhaaAt
namespace Go.Proofs.Ythgafdbdmemkhaa
set_option linter.unusedVariables false
open Go.ChangeShapes Go.WideShapes Go.ChangeAt Go.RowKit

/-- A picture's samples lie in w: n of them, c j the j-th. -/
def Pix (w : World) (A : Option Addr) (n : Nat) (c : Nat → Nat) : Prop :=
  0 < n → ∃ bk off, A = some ⟨bk, off, none⟩ ∧ bk < w.heap.size ∧ ∀ j, j < n → w.cell? ⟨bk, off + j, none⟩ = some (.int .u16 (c j : Nat))
theorem Pix.below {w w' : World} {A : Option Addr} {n : Nat} {c : Nat → Nat} (h : Pix w A n c) (hb : Below w.heap.size w w') : Pix w' A n c := fun hn => by
  obtain ⟨bk, off, rfl, hlt, hc⟩ := h hn
  exact ⟨bk, off, rfl, Nat.lt_of_lt_of_le hlt hb.size, fun j hj => (hb.cell (p := ⟨bk, off + j, none⟩) hlt).trans (hc j hj)⟩
theorem pixB {w W : World} {o : Obj} {A : Option Addr} {n : Nat} {c : Nat → Nat} (h : Pix (w.alloc o) A n c) (hb : Below (w.heap.size + 1) (w.alloc o) W) : Pix W A n c := h.below (by rw [World.size_alloc]; exact hb)
theorem keep_below {w8 w w' : World} {o : Obj} (h : Below (w8.heap.size + 1) (w8.alloc o) w) (hb : Below w.heap.size w w') : Below (w8.heap.size + 1) (w8.alloc o) w' := h.trans (hb.mono (by have := h.size; rwa [World.size_alloc] at this))
theorem below_keep {w w' : World} {p : Addr} {v : Value} (hb : Below w.heap.size w w') (h : w.cell? p = some v) : w'.cell? p = some v := (hb.cell (lt_of_cell h)).trans h
/-- The two boxes of a comparison. -/
theorem two_boxes (w : World) (cs cs2 : Array Value) (t t2 : TypeId) : let W := (w.alloc (.cells cs t)).alloc (.cells cs2 t2)
    W.heap.size = w.heap.size + 2 ∧ W.heap[w.heap.size]? = some (.cells cs t (0, 0)) ∧ W.heap[w.heap.size + 1]? = some (.cells cs2 t2 (0, 0)) ∧ Below w.heap.size w W := by
  intro W
  have h2 := hp_new0 (w.alloc (.cells cs t)) (.cells cs2 t2)
  rw [World.size_alloc] at h2
  exact ⟨by simp [W, World.size_alloc], hp_alloc _ (hp_new0 _ _), h2, ((Below.refl _ w).alloc (Nat.le_refl _) _).alloc (by simp) _⟩
/-- The place of a pixel, and that it lies within. -/
theorem in_place {a b : Int} {n : Nat} {x y : Int} (h : inB a b n x y = true) : ∃ k : Nat, y * a + x = (k : Int) ∧ 4 * k + 4 ≤ n ∧ n ≤ 65536 := by
  obtain ⟨hm, h1, h2, h3, h4⟩ := in_ok h
  obtain ⟨hz, hn⟩ := may_ok hm
  obtain ⟨q1, q2, q3, q4, q5⟩ := size_ok hz
  obtain ⟨m0, m1⟩ := mul_bd y a 256 256 h3 (by omega) (by omega) q2
  refine ⟨(y * a + x).toNat, by omega, ?_, ?_⟩
  · have e : (y + 1) * a ≤ b * a := Int.mul_le_mul_of_nonneg_right (by omega) (by omega)
    rw [Int.add_mul, Int.one_mul] at e
    have e2 : 4 * a * b = 4 * (b * a) := by rw [Int.mul_assoc, Int.mul_comm a b]
    omega
  · have e2 : 4 * a * b = 4 * (a * b) := by rw [Int.mul_assoc]
    omega
def zero4 : Value := .agg #[.int .u16 0, .int .u16 0, .int .u16 0, .int .u16 0]
def getV (a b : Int) (n : Nat) (c : Nat → Nat) (x y : Int) : Value := if inB a b n x y = true then px c (y * a + x).toNat else zero4

set_option maxRecDepth 100000 in
set_option maxHeartbeats 2000000 in
theorem get_prog (a b : Int) (A : Option Addr) (n cap : Nat) (c : Nat → Nat) (x y : Int) (ha : In64 a) (hb : In64 b) (hn : n ≤ cap) (hc : cap ≤ maxLen) (w : World) (hP : Pix w A n c) :
    Calls Try.prog 17 #[.agg #[.int .i64 a, .int .i64 b, .slice A n cap], .int .i64 x, .int .i64 y] w fun e w' =>
      Below w.heap.size w w' ∧ e = .returned (.tuple #[getV a b n c x y, .bool (inB a b n x y)]) := by
  cases hr : inB a b n x y with
  | true =>
    obtain ⟨k, hk, hk4, hk5⟩ := in_place hr
    obtain ⟨bk, off, rfl, hbk, hcs⟩ := hP (by omega)
    have hgv : getV a b n c x y = px c k := by unfold getV; rw [if_pos hr, hk]; rfl
    have HG := Lib.hid hgv
    have HR := Lib.hid hr
    clear hgv hr
    go_enter Try.func17, Try.ntmps17
    go_wp2_with fail
    refine (at_prog a b _ n cap x y ha hb hn hc _).mono ?_
    rintro e u1 ⟨hB, i, rfl, hi⟩
    obtain rfl := hi HR.out
    rw [HR.out, hk]
    have hB0 := (((Below.refl _ w).alloc (Nat.le_refl _) _).alloc (by simp) _).trans (hB.mono (by simp; omega))
    have q0 := hp_below (hp_alloc _ (hp_new0 w _)) hB (by simp; omega)
    have q1 := hp_below (hp_new0 _ _) hB (by simp)
    rw [World.size_alloc] at q1
    have k2 := hp_cell (j := 2) q0 rfl
    have z0 := hp_cell (j := 0) q1 rfl
    have z1 := hp_cell (j := 1) q1 rfl
    have z2 := hp_cell (j := 2) q1 rfl
    have z3 := hp_cell (j := 3) q1 rfl
    have zf : ∀ j, u1.frozen? ⟨w.heap.size + 1, j, none⟩ = false := fun j => by simp [World.frozen?, q1]
    have c0 : u1.cell? ⟨bk, off + 4 * k, none⟩ = _ := (hB0.cell (p := ⟨bk, off + 4 * k, none⟩) hbk).trans (hcs (4 * k) (by omega))
    have c1 : u1.cell? ⟨bk, off + 4 * k + 1, none⟩ = some (.int .u16 (c (4 * k + 1) : Nat)) := (hB0.cell (p := ⟨bk, off + 4 * k + 1, none⟩) hbk).trans (by have := hcs (4 * k + 1) (by omega); rwa [← Nat.add_assoc] at this)
    have c2 : u1.cell? ⟨bk, off + 4 * k + 2, none⟩ = some (.int .u16 (c (4 * k + 2) : Nat)) := (hB0.cell (p := ⟨bk, off + 4 * k + 2, none⟩) hbk).trans (by have := hcs (4 * k + 2) (by omega); rwa [← Nat.add_assoc] at this)
    have c3 : u1.cell? ⟨bk, off + 4 * k + 3, none⟩ = some (.int .u16 (c (4 * k + 3) : Nat)) := (hB0.cell (p := ⟨bk, off + 4 * k + 3, none⟩) hbk).trans (by have := hcs (4 * k + 3) (by omega); rwa [← Nat.add_assoc] at this)
    have HB := Lib.hid hB0
    clear hB hB0 q0 q1 hcs hP
    have hck : ¬cap = 4 * k := by omega
    have hlI : (4 : Int) * (k : Int) + 4 ≤ (n : Int) := by omega
    have hat : ∀ W, (Instr.arrayAt 48 (.slice (some ⟨bk, off + 4 * k, none⟩) 4 (cap - 4 * k))).run Try.prog W = .ok (.pointer (some ⟨bk, off + 4 * k, none⟩)) W := fun W => by kernel_rfl
    go_wp2
    refine bodyPost_ret (v := .tuple #[px c k, .bool true]) (by rw [results_cell_tmp rfl]; unfold px; go_simp) rfl ?_
    refine ⟨?_, by rw [HG.out]⟩
    exact ((((HB.out).setCell (p := ⟨w.heap.size + 1, 0, none⟩) (by simp) _).setCell (p := ⟨w.heap.size + 1, 1, none⟩) (by simp) _).setCell (p := ⟨w.heap.size + 1, 2, none⟩) (by simp) _).setCell (p := ⟨w.heap.size + 1, 3, none⟩) (by simp) _
  | false =>
    have hgv : getV a b n c x y = zero4 := by unfold getV; rw [hr]; rfl
    have HG := Lib.hid hgv
    have HR := Lib.hid hr
    clear hgv hr
    go_enter Try.func17, Try.ntmps17
    go_wp2_with fail
    refine (at_prog a b _ n cap x y ha hb hn hc _).mono ?_
    rintro e u1 ⟨hB, i, rfl, hi⟩
    rw [HR.out]
    clear hi
    have hB0 := (((Below.refl _ w).alloc (Nat.le_refl _) _).alloc (by simp) _).trans (hB.mono (by simp; omega))
    have q1 := hp_below (hp_new0 _ _) hB (by simp)
    rw [World.size_alloc] at q1
    have z0 := hp_cell (j := 0) q1 rfl
    have z1 := hp_cell (j := 1) q1 rfl
    have z2 := hp_cell (j := 2) q1 rfl
    have z3 := hp_cell (j := 3) q1 rfl
    have zf : ∀ j, u1.frozen? ⟨w.heap.size + 1, j, none⟩ = false := fun j => by simp [World.frozen?, q1]
    have HB := Lib.hid hB0
    clear hB hB0 q1 hP
    go_wp2
    refine bodyPost_ret (v := .tuple #[zero4, .bool false]) (by rw [results_cell_tmp rfl]; unfold zero4; go_simp) rfl ?_
    refine ⟨?_, by rw [HG.out]⟩
    exact ((((HB.out).setCell (p := ⟨w.heap.size + 1, 0, none⟩) (by simp) _).setCell (p := ⟨w.heap.size + 1, 1, none⟩) (by simp) _).setCell (p := ⟨w.heap.size + 1, 2, none⟩) (by simp) _).setCell (p := ⟨w.heap.size + 1, 3, none⟩) (by simp) _
end Go.Proofs.Ythgafdbdmemkhaa
