/- bmpread: place, next. bmpread: under. bmpread: pixel. A pixel that is drawn: the state while it is. bmpread: put. bmpread: put, in the picture. -/
import Derived.Test.YthgafdbdmemkhaaDoorM11
import Derived.StillTailTactics
import Derived.Deep.RegionHeld
import Derived.Deep.MidRow
namespace Go.Proofs.YthgafdbdmemkhaaDoor
set_option maxRecDepth 100000
set_option linter.unusedVariables false
open Go.ChangeShapes Go.WideShapes Go.ChangeAt Go.RowKit

def aggP (p : P4) : Value := .agg #[.int .u16 (p.1 : Nat), .int .u16 (p.2.1 : Nat), .int .u16 (p.2.2.1 : Nat), .int .u16 (p.2.2.2 : Nat)]
set_option maxRecDepth 100000 in
set_option maxHeartbeats 1000000 in
theorem place_no (g k : Nat) (AC : Option Addr) (nc cc : Nat) (w : World) (hk : nc ≤ k) (c13 : w.cell? ⟨g, 13, none⟩ = some (.slice AC nc cc)) :
    Calls Tryd.prog 66 #[.pointer (some ⟨g, 0, none⟩), .int .i64 (k : Nat)] w fun e w' => PanB 4 e ∧ Below w.heap.size w w' := by
  have hB := (Below.refl _ w).alloc (Nat.le_refl _) (.cells #[.int .u16 0, .int .u16 0, .int .u16 0, .int .u16 0] 45)
  have d13 := (hB.cell (lt_of_cell c13)).trans c13
  have HB := Lib.hid hB
  have t1 : decide ((k : Int) < (nc : Int)) = false := by simp; omega
  have t2 : decide (k < nc) = false := by simp; omega
  clear hB c13
  go_enter Tryd.func66, Tryd.ntmps66
  go_wp2_with fail
  refine (bmust_no 4 _).mono ?_
  rintro e w1 ⟨hp, rfl⟩
  obtain rfl := hp
  go_wp2_with fail
  exact ⟨rfl, rfl, HB.out⟩
set_option maxRecDepth 100000 in
set_option maxHeartbeats 1000000 in
theorem place_yes (g k : Nat) (AC : Option Addr) (cc : Nat) (L : List P4) (w : World) (hk : k < L.length) (hL : L.length ≤ 256) (c13 : w.cell? ⟨g, 13, none⟩ = some (.slice AC L.length cc)) (hS : Sl w (.slice AC L.length cc) 4 L.length (cellsP L)) :
    Calls Tryd.prog 66 #[.pointer (some ⟨g, 0, none⟩), .int .i64 (k : Nat)] w fun e w' => e = .returned (aggP ((L[k]?).getD (0, 0, 0, 0))) ∧ Below w.heap.size w w' := by
  have hB := (Below.refl _ w).alloc (Nat.le_refl _) (.cells #[.int .u16 0, .int .u16 0, .int .u16 0, .int .u16 0] 45)
  have d13 := (hB.cell (lt_of_cell c13)).trans c13
  have HX := Lib.hid (hp_new0 w (.cells #[.int .u16 0, .int .u16 0, .int .u16 0, .int .u16 0] 45))
  obtain ⟨bL, oL, hLe, hbL, hcL⟩ := (hS.below hB).cell (by omega)
  subst hLe
  obtain ⟨P, hP⟩ : ∃ P, L[k]? = some P := ⟨L[k], List.getElem?_eq_getElem hk⟩
  have hpp : ∀ j, j < 4 → (w.alloc (.cells #[.int .u16 0, .int .u16 0, .int .u16 0, .int .u16 0] 45)).cell? ⟨bL, oL + (k * 4 + j), none⟩ = (cP P)[j]? := fun j hj => (hcL (k * 4 + j) (by omega)).trans (cellsP_get L k P hP j hj)
  have p0 := hpp 0 (by omega)
  have p1 := hpp 1 (by omega)
  have p2 := hpp 2 (by omega)
  have p3 := hpp 3 (by omega)
  simp only [cP, List.getElem?_cons_zero, List.getElem?_cons_succ, ← Nat.add_assoc, Nat.add_zero] at p0 p1 p2 p3
  rw [hP, Option.getD_some]
  have HB := Lib.hid hB
  have hkl : (k : Int) < (L.length : Int) := by omega
  have t1 : decide ((k : Int) < (L.length : Int)) = true := by simp; omega
  have t2 : decide (k < L.length) = true := by simp; omega
  have r0 := hp_cell (j := 0) HX.out rfl
  have r1 := hp_cell (j := 1) HX.out rfl
  have r2 := hp_cell (j := 2) HX.out rfl
  have r3 := hp_cell (j := 3) HX.out rfl
  have rf := hp_froz HX.out
  clear hB c13 hS hcL hpp hP
  go_enter Tryd.func66, Tryd.ntmps66
  go_wp2_with fail
  generalize w.alloc (.cells #[.int .u16 0, .int .u16 0, .int .u16 0, .int .u16 0] 45) = w1 at *
  refine (bmust_yes 4 _).mono ?_
  rintro e w2 ⟨rfl, rfl⟩
  go_wp2_with fail
  refine bodyPost_ret (v := aggP P) (by rw [results_cell1 rfl]; unfold aggP; go_simp) rfl ?_
  exact ⟨rfl, (((HB.out.setCell (p := ⟨w.heap.size, 0, none⟩) (Nat.le_refl _) _).setCell (p := ⟨w.heap.size, 1, none⟩) (Nat.le_refl _) _).setCell (p := ⟨w.heap.size, 2, none⟩) (Nat.le_refl _) _).setCell (p := ⟨w.heap.size, 3, none⟩) (Nat.le_refl _) _⟩
theorem setB_get {cs : Array Value} {i j : Nat} {x : Value} (h : j ≠ i) : (cs.setIfInBounds i x)[j]? = cs[j]? := by
  rw [Array.getElem?_setIfInBounds_ne (by omega)]
theorem setB_same {cs : Array Value} {i : Nat} {x u : Value} (h : cs[i]? = some u) : (cs.setIfInBounds i x)[i]? = some x := by
  have hl := (Array.getElem?_eq_some_iff.1 h).1
  rw [Array.getElem?_setIfInBounds_self_of_lt hl]
/-- What is read of a file after its reader changed. -/
theorem Byt.oth {w : World} {A : Option Addr} {m g i : Nat} {d : Nat → Nat} {x : Value} (h : Byt w A m d) (hA : ∀ a, A = some a → a.block ≠ g) : Byt (w.setCell ⟨g, i, none⟩ x) A m d :=
  h.chg (S := [g]) ((Chg.refl [g] w).set (.inl (by simp)) i x) (fun _ a ha => by simp; exact hA a ha)
set_option maxRecDepth 100000 in
set_option maxHeartbeats 1000000 in
theorem next_no (g p m cap : Nat) (A : Option Addr) (cs : Array Value) (hp : m ≤ p) (w : World) (hR : w.heap[g]? = some (.cells cs 71 (0, 0))) (q0 : cs[0]? = some (.slice A m cap)) (q17 : cs[17]? = some (.int .i64 (p : Nat))) :
    Calls Tryd.prog 56 #[.pointer (some ⟨g, 0, none⟩)] w fun e w' => PanB 2 e ∧ ∃ k, w' = w.drewN k := by
  have c0 := hp_cell (j := 0) hR q0
  have c17 := hp_cell (j := 17) hR q17
  have t1 : decide ((p : Int) < (m : Int)) = false := by simp; omega
  have t2 : decide (p < m) = false := by simp; omega
  clear hR
  go_enter Tryd.func56, Tryd.ntmps56
  go_upto_region 1 with fail
  go_still_tail 10, (by kernel_rfl)
  repeat still_step
  try refine wpStill_nil ?_
  change wpList _ _ _ _ _ w.drew
  go_wp2_with fail
  refine (bmust_no 2 _).mono ?_
  rintro e w1 ⟨hp, rfl⟩
  obtain rfl := hp
  go_wp2_with fail
  exact ⟨rfl, rfl, 1, rfl⟩
set_option maxRecDepth 100000 in
set_option maxHeartbeats 1000000 in
theorem next_yes (g p m cap : Nat) (A : Option Addr) (cs : Array Value) (d : Nat → Nat) (hd : ∀ i, d i < 256) (hp : p < m) (hm : m ≤ 262144) (w : World) (hR : w.heap[g]? = some (.cells cs 71 (0, 0))) (q0 : cs[0]? = some (.slice A m cap)) (q17 : cs[17]? = some (.int .i64 (p : Nat))) (hB : Byt w A m d) (hA : ∀ a, A = some a → a.block ≠ g) :
    Calls Tryd.prog 56 #[.pointer (some ⟨g, 0, none⟩)] w fun e w' => e = .returned (.int .i64 ((d p : Nat) : Int)) ∧ ∃ k, w' = (w.setCell ⟨g, 17, none⟩ (.int .i64 ((p + 1 : Nat) : Int))).drewN k := by
  have c0 := hp_cell (j := 0) hR q0
  have c17 := hp_cell (j := 17) hR q17
  have t1 : decide ((p : Int) < (m : Int)) = true := by simp; omega
  have t2 : decide (p < m) = true := by simp; omega
  have fz := hp_froz hR
  obtain ⟨bk, of, hAe, hbl, hcl⟩ := (hB.oth (i := 17) (x := .int .i64 ((p : Int) + 1)) hA) (by omega)
  subst hAe
  have hs := heap_set (i := 17) (x := .int .i64 ((p : Int) + 1)) hR
  have d0 := hp_cell (j := 0) hs ((setB_get (by omega)).trans q0)
  have d17 := hp_cell (j := 17) hs (setB_same q17)
  have dp := hcl p hp
  have hdp := hd p
  obtain ⟨x, hx⟩ : ∃ x, x = d p := ⟨_, rfl⟩
  rw [← hx] at dp hdp ⊢
  have e9 : ((p + 1 : Nat) : Int) = (p : Int) + 1 := by omega
  rw [e9]
  have HE9 := Lib.hid e9
  have i1 : IntKind.i64.wrap ((p : Int) + 1 - 1) = (p : Int) := by rw [Int.add_sub_cancel]; exact IntWalk.i64_in _ (by omega)
  have i2 : (p : Int) + 1 - 1 = (p : Int) := by omega
  have i3 : (0 : Int) ≤ (p : Int) := by omega
  have i4 : (p : Int) < (m : Int) := by omega
  have i5 : IntKind.i64.wrap (x : Int) = (x : Int) := IntWalk.i64_in _ (by omega)
  clear hR hB hcl hs hx e9 q0 q17 hd
  go_enter Tryd.func56, Tryd.ntmps56
  go_upto_region 1 with fail
  go_still_tail 10, (by kernel_rfl)
  repeat still_step
  try refine wpStill_nil ?_
  change wpList _ _ _ _ _ w.drew
  go_wp2_with fail
  refine (bmust_yes 2 _).mono ?_
  rintro e w1 ⟨rfl, rfl⟩
  go_upto_region 3 with fail
  have k0 : (w.setCell ⟨g, 17, none⟩ (.int .i64 ((p : Int) + 1))).drew.cell? ⟨g, 0, none⟩ = some (.slice (some ⟨bk, of, none⟩) m cap) := d0
  have k17 : (w.setCell ⟨g, 17, none⟩ (.int .i64 ((p : Int) + 1))).drew.cell? ⟨g, 17, none⟩ = some (.int .i64 ((p : Int) + 1)) := d17
  have kp : (w.setCell ⟨g, 17, none⟩ (.int .i64 ((p : Int) + 1))).drew.cell? ⟨bk, of + p, none⟩ = some (.int .u8 (x : Nat)) := dp
  have HW : Hid (∀ n, (w.setCell ⟨g, 17, none⟩ (.int .i64 ((p : Int) + 1))).drew.drewN n = (w.setCell ⟨g, 17, none⟩ (.int .i64 ((p : Int) + 1))).drewN (1 + n)) := Lib.hid fun n => World.drewN_drew (w.setCell ⟨g, 17, none⟩ (.int .i64 ((p : Int) + 1))) n
  clear d0 d17 dp c0 c17 t1 fz
  generalize (w.setCell ⟨g, 17, none⟩ (.int .i64 ((p : Int) + 1))).drew = w2 at *
  go_quiet (fail)
  go_wp2
  go_ret
  exact ⟨rfl, 1 + nq, HW.out nq⟩
end Go.Proofs.YthgafdbdmemkhaaDoor

namespace Go.Proofs.YthgafdbdmemkhaaDoor
set_option maxRecDepth 100000
set_option linter.unusedVariables false
open Go.ChangeShapes Go.WideShapes Go.ChangeAt Go.RowKit

def pqQ (f : Nat → Nat) (v i j : Nat) : Int := if j < i then prtV v (f j) else 0
def pqC (f : Nat → Nat) (v i : Nat) : Array Value := #[.int .u16 (pqQ f v i 0), .int .u16 (pqQ f v i 1), .int .u16 (pqQ f v i 2), .int .u16 (pqQ f v i 3)]
theorem pqC_succ (f : Nat → Nat) (v i : Nat) (hi : i < 4) : (pqC f v i).setIfInBounds i (.int .u16 (prtV v (f i))) = pqC f v (i + 1) := by
  have h : i = 0 ∨ i = 1 ∨ i = 2 ∨ i = 3 := by omega
  rcases h with rfl | rfl | rfl | rfl <;> simp [pqC, pqQ]
set_option maxRecDepth 100000 in
set_option maxHeartbeats 2000000 in
theorem under_b (g v : Nat) (hv : v < 4294967296) (f : Nat → Nat) (hf : ∀ i, f i < 4294967296) (w : World) (hT : TabW w)
    (c9 : w.cell? ⟨g, 9, none⟩ = some (.int .u32 (f 0 : Nat))) (c10 : w.cell? ⟨g, 10, none⟩ = some (.int .u32 (f 1 : Nat))) (c11 : w.cell? ⟨g, 11, none⟩ = some (.int .u32 (f 2 : Nat))) (c12 : w.cell? ⟨g, 12, none⟩ = some (.int .u32 (f 3 : Nat))) :
    Calls Tryd.prog 67 #[.pointer (some ⟨g, 0, none⟩), .int .i64 (v : Nat)] w fun e w' => e = .returned (.agg #[.int .u16 (prtV v (f 0)), .int .u16 (prtV v (f 1)), .int .u16 (prtV v (f 2)), .int .u16 (prtV v (f 3))]) ∧ Below w.heap.size w w' := by
  have HB := Lib.hid (((Below.refl _ w).alloc (Nat.le_refl _) (.cells #[.int .u16 0, .int .u16 0, .int .u16 0, .int .u16 0] 45)).alloc (by simp) (.cells #[.int .u16 0, .int .u16 0, .int .u16 0, .int .u16 0] 45))
  have HR := Lib.hid (hp_alloc (.cells #[.int .u16 0, .int .u16 0, .int .u16 0, .int .u16 0] 45) (hp_new0 w (.cells #[.int .u16 0, .int .u16 0, .int .u16 0, .int .u16 0] 45)))
  have HP : Hid (((w.alloc (.cells #[.int .u16 0, .int .u16 0, .int .u16 0, .int .u16 0] 45)).alloc (.cells #[.int .u16 0, .int .u16 0, .int .u16 0, .int .u16 0] 45)).heap[w.heap.size + 1]? = some (.cells (pqC f v 0) 45 (0, 0))) := Lib.hid (hp_newk (o := (.cells #[.int .u16 0, .int .u16 0, .int .u16 0, .int .u16 0] 45)) (by simp))
  have d9 := (HB.out.cell (lt_of_cell c9)).trans c9
  have d10 := (HB.out.cell (lt_of_cell c10)).trans c10
  have d11 := (HB.out.cell (lt_of_cell c11)).trans c11
  have d12 := (HB.out.cell (lt_of_cell c12)).trans c12
  have HF := Lib.hid hf
  have HT := Lib.hid hT
  obtain ⟨F0, h0⟩ : ∃ F0, F0 = f 0 := ⟨_, rfl⟩
  obtain ⟨F1, h1⟩ : ∃ F1, F1 = f 1 := ⟨_, rfl⟩
  obtain ⟨F2, h2⟩ : ∃ F2, F2 = f 2 := ⟨_, rfl⟩
  obtain ⟨F3, h3⟩ : ∃ F3, F3 = f 3 := ⟨_, rfl⟩
  rw [← h0] at d9
  rw [← h1] at d10
  rw [← h2] at d11
  rw [← h3] at d12
  have HE := Lib.hid (And.intro (And.intro h0 h1) (And.intro h2 h3))
  clear hf hT h0 h1 h2 h3 c9 c10 c11 c12
  go_enter Tryd.func67, Tryd.ntmps67
  go_wp2_with fail
  clear d9 d10 d11 d12
  generalize ((w.alloc (.cells #[.int .u16 0, .int .u16 0, .int .u16 0, .int .u16 0] 45)).alloc (.cells #[.int .u16 0, .int .u16 0, .int .u16 0, .int .u16 0] 45)) = W0 at *
  go_loopw [12] (fun x wr => ∃ i : Nat, i ≤ 4 ∧ x = .int .i64 (i : Nat) ∧ Below w.heap.size w wr ∧ wr.heap[w.heap.size]? = some (.cells #[.int .u16 0, .int .u16 0, .int .u16 0, .int .u16 0] 45 (0, 0)) ∧ wr.heap[w.heap.size + 1]? = some (.cells (pqC f v i) 45 (0, 0))) (fun x _ => 4 - (intOf x).toNat)
  case atStart => exact ⟨0, by omega, rfl, HB.out, HR.out, HP.out⟩
  case round =>
    obtain ⟨i, hi4, rfl, hB, hR, hP⟩ := hrel
    by_cases hlt : i < 4
    · obtain ⟨x, hx⟩ : ∃ x, x = f i := ⟨_, rfl⟩
      have hcf : (#[Value.int .u32 (F0 : Nat), .int .u32 (F1 : Nat), .int .u32 (F2 : Nat), .int .u32 (F3 : Nat)] : Array Value)[i]? = some (.int .u32 (x : Nat)) := by
        obtain ⟨⟨q0, q1⟩, q2, q3⟩ := HE.out
        have h : i = 0 ∨ i = 1 ∨ i = 2 ∨ i = 3 := by omega
        rcases h with rfl | rfl | rfl | rfl <;> rw [hx]
        · rw [← q0]; rfl
        · rw [← q1]; rfl
        · rw [← q2]; rfl
        · rw [← q3]; rfl
      have hx32 : x < 4294967296 := by rw [hx]; exact HF.out i
      have hix := idx4 F0 F1 F2 F3 i x hlt hcf
      have hset := pqC_succ f v i hlt
      rw [← hx] at hset
      have HSET := Lib.hid hset
      have HB2 := Lib.hid hB
      have HR2 := Lib.hid hR
      have HP2 := Lib.hid hP
      have HTW := Lib.hid (HT.out.below hB)
      have hs : i < (pqC f v i).size := by simp [pqC]; omega
      have hvw : IntKind.u32.wrap (v : Int) = (v : Int) := IntWalk.u32_in _ (by omega)
      clear hcf hx hset hB hR hP HB HR HP
      go_wp2_with fail
      refine (part_b v x hv hx32 _ HTW.out).mono ?_
      rintro e w2 ⟨rfl, k, rfl⟩
      have HR3 : Hid ((wr.drewN k).heap[w.heap.size]? = some (.cells #[.int .u16 0, .int .u16 0, .int .u16 0, .int .u16 0] 45 (0, 0))) := Lib.hid HR2.out
      have HP3 : Hid ((wr.drewN k).heap[w.heap.size + 1]? = some (.cells (pqC f v i) 45 (0, 0))) := Lib.hid HP2.out
      have HB3 := Lib.hid (below_drewN HB2.out k)
      clear HR2 HP2 HB2 HTW
      generalize wr.drewN k = w3 at *
      obtain ⟨ov, cp⟩ : ∃ ov, w3.cell? ⟨w.heap.size + 1, i, none⟩ = some ov := ⟨_, hp_cell HP3.out (Array.getElem?_eq_getElem hs)⟩
      have fp := hp_froz HP3.out i
      go_wp2_with fail
      go_roundw
      case rel => exact ⟨i + 1, hlt, by go_num, HB3.out.setCell (p := ⟨w.heap.size + 1, i, none⟩) (by simp) _, hp_oth HR3.out (by omega), HSET.out ▸ heap_set HP3.out⟩
      case measure => simp [intOf]; omega
    · obtain rfl : i = 4 := by omega
      have p0 : wr.cell? ⟨w.heap.size + 1, 0, none⟩ = some (.int .u16 (prtV v (f 0))) := hp_cell (j := 0) hP rfl
      have p1 : wr.cell? ⟨w.heap.size + 1, 1, none⟩ = some (.int .u16 (prtV v (f 1))) := hp_cell (j := 1) hP rfl
      have p2 : wr.cell? ⟨w.heap.size + 1, 2, none⟩ = some (.int .u16 (prtV v (f 2))) := hp_cell (j := 2) hP rfl
      have p3 : wr.cell? ⟨w.heap.size + 1, 3, none⟩ = some (.int .u16 (prtV v (f 3))) := hp_cell (j := 3) hP rfl
      have z0 := hp_cell (j := 0) hR rfl
      have z1 := hp_cell (j := 1) hR rfl
      have z2 := hp_cell (j := 2) hR rfl
      have z3 := hp_cell (j := 3) hR rfl
      have zf := hp_froz hR
      have HB2 := Lib.hid hB
      clear hB hR hP HB HR HP
      go_wp2_with fail
      refine bodyPost_ret (v := .agg #[.int .u16 (prtV v (f 0)), .int .u16 (prtV v (f 1)), .int .u16 (prtV v (f 2)), .int .u16 (prtV v (f 3))]) (by rw [results_cell1 rfl]; go_simp) rfl ?_
      exact ⟨rfl, ((((HB2.out).setCell (p := ⟨w.heap.size, 0, none⟩) (Nat.le_refl _) _).setCell (p := ⟨w.heap.size, 1, none⟩) (Nat.le_refl _) _).setCell (p := ⟨w.heap.size, 2, none⟩) (Nat.le_refl _) _).setCell (p := ⟨w.heap.size, 3, none⟩) (Nat.le_refl _) _⟩
end Go.Proofs.YthgafdbdmemkhaaDoor

namespace Go.Proofs.YthgafdbdmemkhaaDoor
set_option maxRecDepth 100000
set_option linter.unusedVariables false
open Go.ChangeShapes Go.WideShapes Go.ChangeAt Go.RowKit

theorem elem_u8b : Tryd.prog.elem 26 = 5 := by kernel_rfl
theorem size_u8b (W : World) : (sizeOf 5).run Tryd.prog W = .ok 1 W := by kernel_rfl
theorem und_u8b : Tryd.prog.underlying 26 = some (.slice (Tryd.prog.elem 26)) := by rw [elem_u8b]; exact Tryd.underlying26
theorem run_lo (A : Option Addr) (n cap q : Nat) (hq : q ≤ n) (W : World) :
    (Instr.sliceAt 26 (.slice A n cap) (some (.int .i64 (q : Nat))) none none).run Tryd.prog W = .ok (.slice (if cap = q then A else A.map (·.add q)) (n - q) (cap - q)) W := by
  rw [run_sliceAt_slice _ _ _ _ _ _ und_u8b, run_slice_l W 26 A n cap und_u8b .i64 (q : Nat) (by omega) (by omega), elem_u8b, size_u8b]
  simp [Result.andThen, sliced]
theorem Byt.from {w : World} {A : Option Addr} {n cap : Nat} {b : Nat → Nat} (h : Byt w A n b) (hn : n ≤ cap) {q k : Nat} (hq : q + k ≤ n) : Byt w (if cap = q then A else A.map (·.add q)) k (fun i => b (q + i)) := fun hk => by
  obtain ⟨bk, off, rfl, hlt, hc⟩ := h (by omega)
  rw [if_neg (by omega)]
  refine ⟨bk, off + q, by simp [Addr.add], hlt, fun j hj => ?_⟩
  have := hc (q + j) (by omega)
  rw [← Nat.add_assoc] at this
  exact this
/-- What a reader that draws has. -/
structure PxS (g m cap : Nat) (A : Option Addr) (d f : Nat → Nat) (bits : Nat) (AC : Option Addr) (cc : Nat) (L : List P4) (w : World) : Prop where
  c0 : w.cell? ⟨g, 0, none⟩ = some (.slice A m cap)
  c6 : w.cell? ⟨g, 6, none⟩ = some (.int .i64 (bits : Nat))
  c9 : w.cell? ⟨g, 9, none⟩ = some (.int .u32 (f 0 : Nat))
  c10 : w.cell? ⟨g, 10, none⟩ = some (.int .u32 (f 1 : Nat))
  c11 : w.cell? ⟨g, 11, none⟩ = some (.int .u32 (f 2 : Nat))
  c12 : w.cell? ⟨g, 12, none⟩ = some (.int .u32 (f 3 : Nat))
  c13 : w.cell? ⟨g, 13, none⟩ = some (.slice AC L.length cc)
  hB : Byt w A m d
  hS : Sl w (.slice AC L.length cc) 4 L.length (cellsP L)
  hT : TabW w
theorem PxS.below {g m cap : Nat} {A : Option Addr} {d f : Nat → Nat} {bits : Nat} {AC : Option Addr} {cc : Nat} {L : List P4} {w w' : World} (h : PxS g m cap A d f bits AC cc L w) (hb : Below w.heap.size w w') : PxS g m cap A d f bits AC cc L w' :=
  ⟨(hb.cell (lt_of_cell h.c0)).trans h.c0, (hb.cell (lt_of_cell h.c6)).trans h.c6, (hb.cell (lt_of_cell h.c9)).trans h.c9, (hb.cell (lt_of_cell h.c10)).trans h.c10, (hb.cell (lt_of_cell h.c11)).trans h.c11, (hb.cell (lt_of_cell h.c12)).trans h.c12, (hb.cell (lt_of_cell h.c13)).trans h.c13, h.hB.below hb, h.hS.below hb, h.hT.below hb⟩
theorem PxS.drewN {g m cap : Nat} {A : Option Addr} {d f : Nat → Nat} {bits : Nat} {AC : Option Addr} {cc : Nat} {L : List P4} {w : World} (h : PxS g m cap A d f bits AC cc L w) (k : Nat) : PxS g m cap A d f bits AC cc L (w.drewN k) := h.below (below_drewN (Below.refl _ w) k)
theorem maskV_nn (v b : Int) : 0 ≤ maskV v b := by
  unfold maskV
  split
  · rename_i h
    have h2 := of_decide_eq_true h
    have hp : (0 : Int) < 2 ^ b.toNat := Int.pow_pos (by omega)
    have : 0 ≤ (2 * v * 255 + (2 ^ b.toNat - 1)) / (2 * (2 ^ b.toNat - 1)) := Int.ediv_nonneg (by omega) (by omega)
    omega
  · omega
theorem prtV_nn (v m : Nat) : 0 ≤ prtV v m := by
  unfold prtV
  split
  · exact maskV_nn _ _
  · omega
theorem bm4_agg (f : Nat → Nat) (v : Nat) (h : ∀ j, j < 4 → (runM (f j)).2.2 = true ∨ j = 3) : aggP (bm4 f v) = .agg #[.int .u16 (prtV v (f 0)), .int .u16 (prtV v (f 1)), .int .u16 (prtV v (f 2)), .int .u16 (prtV v (f 3))] := by
  have e : ∀ j, j < 4 → (((bmF f v j).toNat : Nat) : Int) = prtV v (f j) := fun j hj => by
    rw [← prt_bm f v j (h j hj)]
    exact Int.toNat_of_nonneg (prtV_nn _ _)
  unfold aggP bm4
  dsimp only
  rw [e 0 (by omega), e 1 (by omega), e 2 (by omega), e 3 (by omega)]
/-- What a pixel's reading answers. -/
def pxPost (p : Option P4) (w : World) (e : Ending) (w' : World) : Prop := Below w.heap.size w w' ∧ ((p = none ∧ PanB 4 e) ∨ ∃ q, p = some q ∧ e = .returned (aggP q))
section
variable {g m cap : Nat} {A : Option Addr} {d f : Nat → Nat} {AC : Option Addr} {cc : Nat} {L : List P4} {w : World}
set_option maxRecDepth 100000 in
set_option maxHeartbeats 1000000 in
theorem pixel_16 (h : PxS g m cap A d f 16 AC cc L w) (hd : ∀ i, d i < 256) (hf : ∀ i, f i < 4294967296) (hk : ∀ j, j < 4 → (runM (f j)).2.2 = true ∨ j = 3) (hm : m ≤ 262144) (p i : Nat) (hp : p + 2 * i + 2 ≤ m) :
    Calls Tryd.prog 61 #[.pointer (some ⟨g, 0, none⟩), .int .i64 (p : Nat), .int .i64 (i : Nat)] w fun e w' => e = .returned (aggP (bm4 f (lowD d (p + 2 * i) 2))) ∧ Below w.heap.size w w' := by
  have hB := (Below.refl _ w).alloc (Nat.le_refl _) (.cells #[.int .u16 0, .int .u16 0, .int .u16 0, .int .u16 0] 45)
  have HX := Lib.hid (hp_new0 w (.cells #[.int .u16 0, .int .u16 0, .int .u16 0, .int .u16 0] 45))
  have HP := Lib.hid (h.below hB)
  have HB := Lib.hid hB
  have d6 := HP.out.c6
  obtain ⟨q, hq⟩ : ∃ q, q = p + 2 * i := ⟨_, rfl⟩
  rw [← hq] at hp ⊢
  have e1 : (p : Int) + 2 * (i : Int) = (q : Int) := by omega
  have hv := lowD_lt hd q 2
  rw [show (256 : Nat) ^ 2 = 65536 from rfl] at hv
  rw [bm4_agg f _ hk]
  have HD := Lib.hid hd
  have HF := Lib.hid hf
  clear hB h hk hd hf hq
  go_enter Tryd.func61, Tryd.ntmps61
  go_wp2_with fail
  generalize w.alloc (.cells #[.int .u16 0, .int .u16 0, .int .u16 0, .int .u16 0] 45) = w1 at *
  refine (two_b g q m cap A d HD.out hp hm _ HP.out.c0 HP.out.hB).mono ?_
  rintro e w2 ⟨rfl, k, rfl⟩
  obtain ⟨v, hve⟩ : ∃ v, v = lowD d q 2 := ⟨_, rfl⟩
  rw [← hve] at hv ⊢
  have HVE := Lib.hid hve
  clear hve e1 d6
  have HP2 := Lib.hid (HP.out.drewN k)
  have HB2 := Lib.hid (below_drewN HB.out k)
  have HX2 : Hid ((w1.drewN k).heap[w.heap.size]? = some (.cells #[.int .u16 0, .int .u16 0, .int .u16 0, .int .u16 0] 45 (0, 0))) := Lib.hid HX.out
  clear HP HB HX
  generalize w1.drewN k = w2 at *
  go_wp2_with fail
  refine (under_b g v (by omega) f HF.out _ HP2.out.hT HP2.out.c9 HP2.out.c10 HP2.out.c11 HP2.out.c12).mono ?_
  rintro e w3 ⟨rfl, hB3⟩
  have hX3 := hp_below HX2.out hB3 (lt_heap HX2.out)
  have HB3 := Lib.hid (HB2.out.trans (hB3.mono HB2.out.size))
  have r0 := hp_cell (j := 0) hX3 rfl
  have r1 := hp_cell (j := 1) hX3 rfl
  have r2 := hp_cell (j := 2) hX3 rfl
  have r3 := hp_cell (j := 3) hX3 rfl
  have rf := hp_froz hX3
  clear hB3 hX3
  go_wp2_with fail
  refine bodyPost_ret (v := .agg #[.int .u16 (prtV v (f 0)), .int .u16 (prtV v (f 1)), .int .u16 (prtV v (f 2)), .int .u16 (prtV v (f 3))]) (by rw [results_cell1 rfl]; go_simp) rfl ?_
  exact ⟨by rw [← HVE.out], (((HB3.out.setCell (p := ⟨w.heap.size, 0, none⟩) (Nat.le_refl _) _).setCell (p := ⟨w.heap.size, 1, none⟩) (Nat.le_refl _) _).setCell (p := ⟨w.heap.size, 2, none⟩) (Nat.le_refl _) _).setCell (p := ⟨w.heap.size, 3, none⟩) (Nat.le_refl _) _⟩
set_option maxRecDepth 100000 in
set_option maxHeartbeats 1000000 in
theorem pixel_32 (h : PxS g m cap A d f 32 AC cc L w) (hd : ∀ i, d i < 256) (hf : ∀ i, f i < 4294967296) (hk : ∀ j, j < 4 → (runM (f j)).2.2 = true ∨ j = 3) (hm : m ≤ 262144) (p i : Nat) (hp : p + 4 * i + 4 ≤ m) :
    Calls Tryd.prog 61 #[.pointer (some ⟨g, 0, none⟩), .int .i64 (p : Nat), .int .i64 (i : Nat)] w fun e w' => e = .returned (aggP (bm4 f (lowD d (p + 4 * i) 4))) ∧ Below w.heap.size w w' := by
  have hB := (Below.refl _ w).alloc (Nat.le_refl _) (.cells #[.int .u16 0, .int .u16 0, .int .u16 0, .int .u16 0] 45)
  have HX := Lib.hid (hp_new0 w (.cells #[.int .u16 0, .int .u16 0, .int .u16 0, .int .u16 0] 45))
  have HP := Lib.hid (h.below hB)
  have HB := Lib.hid hB
  have d6 := HP.out.c6
  obtain ⟨q, hq⟩ : ∃ q, q = p + 4 * i := ⟨_, rfl⟩
  rw [← hq] at hp ⊢
  have e1 : (p : Int) + 4 * (i : Int) = (q : Int) := by omega
  have hv := lowD_lt hd q 4
  rw [show (256 : Nat) ^ 4 = 4294967296 from rfl] at hv
  rw [bm4_agg f _ hk]
  have HD := Lib.hid hd
  have HF := Lib.hid hf
  clear hB h hk hd hf hq
  go_enter Tryd.func61, Tryd.ntmps61
  go_wp2_with fail
  generalize w.alloc (.cells #[.int .u16 0, .int .u16 0, .int .u16 0, .int .u16 0] 45) = w1 at *
  refine (four_b g q m cap A d HD.out hp hm _ HP.out.c0 HP.out.hB).mono ?_
  rintro e w2 ⟨rfl, k, rfl⟩
  obtain ⟨v, hve⟩ : ∃ v, v = lowD d q 4 := ⟨_, rfl⟩
  rw [← hve] at hv ⊢
  have HVE := Lib.hid hve
  clear hve e1 d6
  have HP2 := Lib.hid (HP.out.drewN k)
  have HB2 := Lib.hid (below_drewN HB.out k)
  have HX2 : Hid ((w1.drewN k).heap[w.heap.size]? = some (.cells #[.int .u16 0, .int .u16 0, .int .u16 0, .int .u16 0] 45 (0, 0))) := Lib.hid HX.out
  clear HP HB HX
  generalize w1.drewN k = w2 at *
  go_wp2_with fail
  refine (under_b g v (by omega) f HF.out _ HP2.out.hT HP2.out.c9 HP2.out.c10 HP2.out.c11 HP2.out.c12).mono ?_
  rintro e w3 ⟨rfl, hB3⟩
  have hX3 := hp_below HX2.out hB3 (lt_heap HX2.out)
  have HB3 := Lib.hid (HB2.out.trans (hB3.mono HB2.out.size))
  have r0 := hp_cell (j := 0) hX3 rfl
  have r1 := hp_cell (j := 1) hX3 rfl
  have r2 := hp_cell (j := 2) hX3 rfl
  have r3 := hp_cell (j := 3) hX3 rfl
  have rf := hp_froz hX3
  clear hB3 hX3
  go_wp2_with fail
  refine bodyPost_ret (v := .agg #[.int .u16 (prtV v (f 0)), .int .u16 (prtV v (f 1)), .int .u16 (prtV v (f 2)), .int .u16 (prtV v (f 3))]) (by rw [results_cell1 rfl]; go_simp) rfl ?_
  exact ⟨by rw [← HVE.out], (((HB3.out.setCell (p := ⟨w.heap.size, 0, none⟩) (Nat.le_refl _) _).setCell (p := ⟨w.heap.size, 1, none⟩) (Nat.le_refl _) _).setCell (p := ⟨w.heap.size, 2, none⟩) (Nat.le_refl _) _).setCell (p := ⟨w.heap.size, 3, none⟩) (Nat.le_refl _) _⟩
set_option maxRecDepth 100000 in
set_option maxHeartbeats 1000000 in
theorem pixel_24 (h : PxS g m cap A d f 24 AC cc L w) (hd : ∀ i, d i < 256) (hmc : m ≤ cap) (hcap : cap ≤ maxLen) (hm : m ≤ 262144) (p i : Nat) (hp : p + 3 * i + 3 ≤ m) :
    Calls Tryd.prog 61 #[.pointer (some ⟨g, 0, none⟩), .int .i64 (p : Nat), .int .i64 (i : Nat)] w fun e w' => e = .returned (aggP (back3 d (p + 3 * i))) ∧ Below w.heap.size w w' := by
  have hB := (Below.refl _ w).alloc (Nat.le_refl _) (.cells #[.int .u16 0, .int .u16 0, .int .u16 0, .int .u16 0] 45)
  have HX := Lib.hid (hp_new0 w (.cells #[.int .u16 0, .int .u16 0, .int .u16 0, .int .u16 0] 45))
  have hP := h.below hB
  have HB := Lib.hid hB
  have d6 := hP.c6
  have d0 := hP.c0
  obtain ⟨q, hq⟩ : ∃ q, q = p + 3 * i := ⟨_, rfl⟩
  rw [← hq] at hp ⊢
  have e1 : (p : Int) + 3 * (i : Int) = (q : Int) := by omega
  have HBQ := Lib.hid (hP.hB.from hmc (q := q) (k := m - q) (by omega))
  have rs := run_lo A m cap q (by omega)
  obtain ⟨Z, hZ⟩ : ∃ Z, Z = (if cap = q then A else A.map (·.add q)) := ⟨_, rfl⟩
  rw [← hZ] at HBQ rs
  have HD := Lib.hid hd
  clear hB h hd hq hP hZ
  go_enter Tryd.func61, Tryd.ntmps61
  go_wp2_with fail
  generalize w.alloc (.cells #[.int .u16 0, .int .u16 0, .int .u16 0, .int .u16 0] 45) = w1 at *
  refine (back_b (m - q) (cap - q) (fun i => d (q + i)) (fun i => HD.out _) Z _ (by omega) HBQ.out).mono ?_
  rintro e w3 ⟨rfl, hB3⟩
  have hX3 := hp_below HX.out hB3 (lt_heap HX.out)
  have HB3 := Lib.hid (HB.out.trans (hB3.mono HB.out.size))
  obtain ⟨x0, hx0⟩ : ∃ x, x = d (q + 2) * 257 := ⟨_, rfl⟩
  obtain ⟨x1, hx1⟩ : ∃ x, x = d (q + 1) * 257 := ⟨_, rfl⟩
  obtain ⟨x2, hx2⟩ : ∃ x, x = d (q + 0) * 257 := ⟨_, rfl⟩
  rw [← hx0, ← hx1, ← hx2]
  have hpost : aggP (back3 d q) = .agg #[.int .u16 (x0 : Nat), .int .u16 (x1 : Nat), .int .u16 (x2 : Nat), .int .u16 65535] := by
    unfold aggP back3
    rw [hx0, hx1, hx2]
    rfl
  have HPO := Lib.hid hpost
  have r0 := hp_cell (j := 0) hX3 rfl
  have r1 := hp_cell (j := 1) hX3 rfl
  have r2 := hp_cell (j := 2) hX3 rfl
  have r3 := hp_cell (j := 3) hX3 rfl
  have rf := hp_froz hX3
  clear hB3 hX3 hpost hx0 hx1 hx2 rs e1 d0 d6
  go_wp2_with fail
  refine bodyPost_ret (v := .agg #[.int .u16 (x0 : Nat), .int .u16 (x1 : Nat), .int .u16 (x2 : Nat), .int .u16 65535]) (by rw [results_cell1 rfl]; go_simp) rfl ?_
  exact ⟨by rw [HPO.out], (((HB3.out.setCell (p := ⟨w.heap.size, 0, none⟩) (Nat.le_refl _) _).setCell (p := ⟨w.heap.size, 1, none⟩) (Nat.le_refl _) _).setCell (p := ⟨w.heap.size, 2, none⟩) (Nat.le_refl _) _).setCell (p := ⟨w.heap.size, 3, none⟩) (Nat.le_refl _) _⟩
set_option maxRecDepth 100000 in
set_option maxHeartbeats 1000000 in
theorem pixel_1 (h : PxS g m cap A d f 1 AC cc L w) (hd : ∀ i, d i < 256) (hL : L.length ≤ 256) (hm : m ≤ 262144) (p i : Nat) (hi : i ≤ 256) (hp : p + (i * 1 + 1 + 7) / 8 ≤ m) :
    Calls Tryd.prog 61 #[.pointer (some ⟨g, 0, none⟩), .int .i64 (p : Nat), .int .i64 (i : Nat)] w (pxPost (bmPx d 1 f L p i) w) := by
  have hB := (Below.refl _ w).alloc (Nat.le_refl _) (.cells #[.int .u16 0, .int .u16 0, .int .u16 0, .int .u16 0] 45)
  have HX := Lib.hid (hp_new0 w (.cells #[.int .u16 0, .int .u16 0, .int .u16 0, .int .u16 0] 45))
  have HP := Lib.hid (h.below hB)
  have HB := Lib.hid hB
  have d0 := HP.out.c0
  have d6 := HP.out.c6
  obtain ⟨q, hq⟩ : ∃ q, q = i / 8 := ⟨_, rfl⟩
  obtain ⟨r, hr⟩ : ∃ r, r = i % 8 := ⟨_, rfl⟩
  obtain ⟨s, hs⟩ : ∃ s, s = 7 - r := ⟨_, rfl⟩
  have hr8 : r < 8 := by omega
  have e1 : (i : Int) / 8 = (q : Int) := by omega
  have e1' : Int.tdiv (i : Int) 8 = (q : Int) := by rw [Int.tdiv_eq_ediv_of_nonneg (by omega), e1]
  have e2 : (i : Int) % 8 = (r : Int) := by omega
  have e2' : Int.tmod (i : Int) 8 = (r : Int) := by rw [Int.tmod_eq_emod_of_nonneg (by omega), e2]
  have e3 : (7 : Int) - (r : Int) = (s : Int) := by omega
  obtain ⟨P, hPe⟩ : ∃ P, P = p + q := ⟨_, rfl⟩
  have e4 : (p : Int) + (q : Int) = (P : Int) := by omega
  have hPm : P < m := by omega
  have hcv : d (p + i * 1 / 8) / 2 ^ (8 - 1 - i * 1 % 8) % 2 ^ 1 = d P / 2 ^ s % 2 := by rw [hPe, hs, hr, hq, Nat.mul_one]
  obtain ⟨bk, of, hAe, hbl, hcl⟩ := HP.out.hB (by omega)
  have dP := hcl P hPm
  have hdP := hd P
  obtain ⟨x, hx⟩ : ∃ x, x = d P := ⟨_, rfl⟩
  rw [← hx] at dP hdP hcv
  obtain ⟨y, hy⟩ : ∃ y, y = x / 2 ^ s := ⟨_, rfl⟩
  rw [← hy] at hcv
  have hyx : y ≤ x := by rw [hy]; exact Nat.div_le_self _ _
  have e5 : (x : Int) / 2 ^ s = (y : Int) := by rw [hy]; simp
  have hy8 : y < 256 := by omega
  have e6 := i64_and_nat y 1 (by omega) (by omega)
  rw [nat_mask1, show ((1 : Nat) : Int) = 1 from rfl] at e6
  obtain ⟨c, hc⟩ : ∃ c, c = y % 2 := ⟨_, rfl⟩
  rw [← hc] at hcv e6
  have HC := Lib.hid hcv
  subst hAe
  have i0 : (0 : Int) ≤ (P : Int) := by omega
  have i1 : (P : Int) < (m : Int) := by omega
  have hpx : bmPx d 1 f L p i = if L.length ≤ c then none else some ((L[c]?).getD (0, 0, 0, 0)) := by
    unfold bmPx
    rw [if_neg (by omega), if_neg (by omega), if_neg (by omega), ← HC.out]
  rw [hpx]
  clear hB h hd hcl hbl hx hcv hpx hq hr hs hPe hy hc hyx
  by_cases hlt : c < L.length
  · rw [if_neg (by omega)]
    go_enter Tryd.func61, Tryd.ntmps61
    go_wp2_with fail
    generalize w.alloc (.cells #[.int .u16 0, .int .u16 0, .int .u16 0, .int .u16 0] 45) = w1 at *
    refine (place_yes g c AC cc L _ hlt hL HP.out.c13 HP.out.hS).mono ?_
    rintro e w3 ⟨rfl, hB3⟩
    have hX3 := hp_below HX.out hB3 (lt_heap HX.out)
    have HB3 := Lib.hid (HB.out.trans (hB3.mono HB.out.size))
    obtain ⟨P4v, hP4⟩ : ∃ q, q = (L[c]?).getD (0, 0, 0, 0) := ⟨_, rfl⟩
    rw [← hP4]
    have HP4 := Lib.hid hP4
    have r0 := hp_cell (j := 0) hX3 rfl
    have r1 := hp_cell (j := 1) hX3 rfl
    have r2 := hp_cell (j := 2) hX3 rfl
    have r3 := hp_cell (j := 3) hX3 rfl
    have rf := hp_froz hX3
    clear hB3 hX3 hP4
    unfold aggP
    go_wp2_with fail
    refine bodyPost_ret (v := aggP P4v) (by rw [results_cell1 rfl]; unfold aggP; go_simp) rfl ?_
    exact ⟨(((HB3.out.setCell (p := ⟨w.heap.size, 0, none⟩) (Nat.le_refl _) _).setCell (p := ⟨w.heap.size, 1, none⟩) (Nat.le_refl _) _).setCell (p := ⟨w.heap.size, 2, none⟩) (Nat.le_refl _) _).setCell (p := ⟨w.heap.size, 3, none⟩) (Nat.le_refl _) _, .inr ⟨_, rfl, by rw [HP4.out]⟩⟩
  · rw [if_pos (by omega)]
    go_enter Tryd.func61, Tryd.ntmps61
    go_wp2_with fail
    generalize w.alloc (.cells #[.int .u16 0, .int .u16 0, .int .u16 0, .int .u16 0] 45) = w1 at *
    refine (place_no g c AC L.length cc _ (by omega) HP.out.c13).mono ?_
    rintro e w3 ⟨hpa, hB3⟩
    obtain rfl := hpa
    have HB3 := Lib.hid (HB.out.trans (hB3.mono HB.out.size))
    clear hB3
    go_wp2_with fail
    exact ⟨rfl, HB3.out, .inl ⟨rfl, rfl⟩⟩
set_option maxRecDepth 100000 in
set_option maxHeartbeats 1000000 in
theorem pixel_4 (h : PxS g m cap A d f 4 AC cc L w) (hd : ∀ i, d i < 256) (hL : L.length ≤ 256) (hm : m ≤ 262144) (p i : Nat) (hi : i ≤ 256) (hp : p + (i * 4 + 4 + 7) / 8 ≤ m) :
    Calls Tryd.prog 61 #[.pointer (some ⟨g, 0, none⟩), .int .i64 (p : Nat), .int .i64 (i : Nat)] w (pxPost (bmPx d 4 f L p i) w) := by
  have hB := (Below.refl _ w).alloc (Nat.le_refl _) (.cells #[.int .u16 0, .int .u16 0, .int .u16 0, .int .u16 0] 45)
  have HX := Lib.hid (hp_new0 w (.cells #[.int .u16 0, .int .u16 0, .int .u16 0, .int .u16 0] 45))
  have HP := Lib.hid (h.below hB)
  have HB := Lib.hid hB
  have d0 := HP.out.c0
  have d6 := HP.out.c6
  obtain ⟨q, hq⟩ : ∃ q, q = i / 2 := ⟨_, rfl⟩
  obtain ⟨r, hr⟩ : ∃ r, r = i % 2 := ⟨_, rfl⟩
  obtain ⟨r4, hr4⟩ : ∃ r4, r4 = 4 * r := ⟨_, rfl⟩
  obtain ⟨s, hs⟩ : ∃ s, s = 4 - r4 := ⟨_, rfl⟩
  have hr8 : r < 2 := by omega
  have e1 : (i : Int) / 2 = (q : Int) := by omega
  have e1' : Int.tdiv (i : Int) 2 = (q : Int) := by rw [Int.tdiv_eq_ediv_of_nonneg (by omega), e1]
  have e2 : (i : Int) % 2 = (r : Int) := by omega
  have e2' : Int.tmod (i : Int) 2 = (r : Int) := by rw [Int.tmod_eq_emod_of_nonneg (by omega), e2]
  have e3 : (4 : Int) - (r4 : Int) = (s : Int) := by omega
  have e7 : (r : Int) * 4 = (r4 : Int) := by omega
  obtain ⟨P, hPe⟩ : ∃ P, P = p + q := ⟨_, rfl⟩
  have e4 : (p : Int) + (q : Int) = (P : Int) := by omega
  have hPm : P < m := by omega
  have hcv : d (p + i * 4 / 8) / 2 ^ (8 - 4 - i * 4 % 8) % 2 ^ 4 = d P / 2 ^ s % 16 := by rw [hPe, hs, show i * 4 / 8 = q by omega, show 8 - 4 - i * 4 % 8 = 4 - r4 by omega]
  obtain ⟨bk, of, hAe, hbl, hcl⟩ := HP.out.hB (by omega)
  have dP := hcl P hPm
  have hdP := hd P
  obtain ⟨x, hx⟩ : ∃ x, x = d P := ⟨_, rfl⟩
  rw [← hx] at dP hdP hcv
  obtain ⟨y, hy⟩ : ∃ y, y = x / 2 ^ s := ⟨_, rfl⟩
  rw [← hy] at hcv
  have hyx : y ≤ x := by rw [hy]; exact Nat.div_le_self _ _
  have e5 : (x : Int) / 2 ^ s = (y : Int) := by rw [hy]; simp
  have hy8 : y < 256 := by omega
  have e6 := i64_and_nat y 15 (by omega) (by omega)
  rw [show (15 : Nat) = 2 ^ 4 - 1 from rfl, Nat.and_two_pow_sub_one_eq_mod, show ((2 ^ 4 - 1 : Nat) : Int) = 15 from rfl, show (2 : Nat) ^ 4 = 16 from rfl] at e6
  obtain ⟨c, hc⟩ : ∃ c, c = y % 16 := ⟨_, rfl⟩
  rw [← hc] at hcv e6
  have HC := Lib.hid hcv
  subst hAe
  have i0 : (0 : Int) ≤ (P : Int) := by omega
  have i1 : (P : Int) < (m : Int) := by omega
  have hpx : bmPx d 4 f L p i = if L.length ≤ c then none else some ((L[c]?).getD (0, 0, 0, 0)) := by
    unfold bmPx
    rw [if_neg (by omega), if_neg (by omega), if_neg (by omega), ← HC.out]
  rw [hpx]
  clear hB h hd hcl hbl hx hcv hpx hq hr hs hPe hy hc hyx hr4
  by_cases hlt : c < L.length
  · rw [if_neg (by omega)]
    go_enter Tryd.func61, Tryd.ntmps61
    go_wp2_with fail
    generalize w.alloc (.cells #[.int .u16 0, .int .u16 0, .int .u16 0, .int .u16 0] 45) = w1 at *
    refine (place_yes g c AC cc L _ hlt hL HP.out.c13 HP.out.hS).mono ?_
    rintro e w3 ⟨rfl, hB3⟩
    have hX3 := hp_below HX.out hB3 (lt_heap HX.out)
    have HB3 := Lib.hid (HB.out.trans (hB3.mono HB.out.size))
    obtain ⟨P4v, hP4⟩ : ∃ q, q = (L[c]?).getD (0, 0, 0, 0) := ⟨_, rfl⟩
    rw [← hP4]
    have HP4 := Lib.hid hP4
    have r0 := hp_cell (j := 0) hX3 rfl
    have r1 := hp_cell (j := 1) hX3 rfl
    have r2 := hp_cell (j := 2) hX3 rfl
    have r3 := hp_cell (j := 3) hX3 rfl
    have rf := hp_froz hX3
    clear hB3 hX3 hP4
    unfold aggP
    go_wp2_with fail
    refine bodyPost_ret (v := aggP P4v) (by rw [results_cell1 rfl]; unfold aggP; go_simp) rfl ?_
    exact ⟨(((HB3.out.setCell (p := ⟨w.heap.size, 0, none⟩) (Nat.le_refl _) _).setCell (p := ⟨w.heap.size, 1, none⟩) (Nat.le_refl _) _).setCell (p := ⟨w.heap.size, 2, none⟩) (Nat.le_refl _) _).setCell (p := ⟨w.heap.size, 3, none⟩) (Nat.le_refl _) _, .inr ⟨_, rfl, by rw [HP4.out]⟩⟩
  · rw [if_pos (by omega)]
    go_enter Tryd.func61, Tryd.ntmps61
    go_wp2_with fail
    generalize w.alloc (.cells #[.int .u16 0, .int .u16 0, .int .u16 0, .int .u16 0] 45) = w1 at *
    refine (place_no g c AC L.length cc _ (by omega) HP.out.c13).mono ?_
    rintro e w3 ⟨hpa, hB3⟩
    obtain rfl := hpa
    have HB3 := Lib.hid (HB.out.trans (hB3.mono HB.out.size))
    clear hB3
    go_wp2_with fail
    exact ⟨rfl, HB3.out, .inl ⟨rfl, rfl⟩⟩
set_option maxRecDepth 100000 in
set_option maxHeartbeats 1000000 in
theorem pixel_8 (h : PxS g m cap A d f 8 AC cc L w) (hd : ∀ i, d i < 256) (hL : L.length ≤ 256) (hm : m ≤ 262144) (p i : Nat) (hi : i ≤ 256) (hp : p + (i * 8 + 8 + 7) / 8 ≤ m) :
    Calls Tryd.prog 61 #[.pointer (some ⟨g, 0, none⟩), .int .i64 (p : Nat), .int .i64 (i : Nat)] w (pxPost (bmPx d 8 f L p i) w) := by
  have hB := (Below.refl _ w).alloc (Nat.le_refl _) (.cells #[.int .u16 0, .int .u16 0, .int .u16 0, .int .u16 0] 45)
  have HX := Lib.hid (hp_new0 w (.cells #[.int .u16 0, .int .u16 0, .int .u16 0, .int .u16 0] 45))
  have HP := Lib.hid (h.below hB)
  have HB := Lib.hid hB
  have d0 := HP.out.c0
  have d6 := HP.out.c6
  obtain ⟨P, hPe⟩ : ∃ P, P = p + i := ⟨_, rfl⟩
  have e4 : (p : Int) + (i : Int) = (P : Int) := by omega
  have hPm : P < m := by omega
  have hcv : d (p + i * 8 / 8) / 2 ^ (8 - 8 - i * 8 % 8) % 2 ^ 8 = d P := by
    have := hd P
    rw [hPe] at this ⊢
    rw [show i * 8 / 8 = i by omega, show 8 - 8 - i * 8 % 8 = 0 by omega, Nat.pow_zero, Nat.div_one]
    omega
  obtain ⟨bk, of, hAe, hbl, hcl⟩ := HP.out.hB (by omega)
  have dP := hcl P hPm
  have hdP := hd P
  obtain ⟨x, hx⟩ : ∃ x, x = d P := ⟨_, rfl⟩
  rw [← hx] at dP hdP hcv
  obtain ⟨c, hc⟩ : ∃ c, c = x := ⟨_, rfl⟩
  rw [← hc] at hcv dP hdP
  have HC := Lib.hid hcv
  subst hAe
  have i0 : (0 : Int) ≤ (P : Int) := by omega
  have i1 : (P : Int) < (m : Int) := by omega
  have hpx : bmPx d 8 f L p i = if L.length ≤ c then none else some ((L[c]?).getD (0, 0, 0, 0)) := by
    unfold bmPx
    rw [if_neg (by omega), if_neg (by omega), if_neg (by omega), ← HC.out]
  rw [hpx]
  clear hB h hd hcl hbl hx hcv hpx hPe hc
  by_cases hlt : c < L.length
  · rw [if_neg (by omega)]
    go_enter Tryd.func61, Tryd.ntmps61
    go_wp2_with fail
    generalize w.alloc (.cells #[.int .u16 0, .int .u16 0, .int .u16 0, .int .u16 0] 45) = w1 at *
    refine (place_yes g c AC cc L _ hlt hL HP.out.c13 HP.out.hS).mono ?_
    rintro e w3 ⟨rfl, hB3⟩
    have hX3 := hp_below HX.out hB3 (lt_heap HX.out)
    have HB3 := Lib.hid (HB.out.trans (hB3.mono HB.out.size))
    obtain ⟨P4v, hP4⟩ : ∃ q, q = (L[c]?).getD (0, 0, 0, 0) := ⟨_, rfl⟩
    rw [← hP4]
    have HP4 := Lib.hid hP4
    have r0 := hp_cell (j := 0) hX3 rfl
    have r1 := hp_cell (j := 1) hX3 rfl
    have r2 := hp_cell (j := 2) hX3 rfl
    have r3 := hp_cell (j := 3) hX3 rfl
    have rf := hp_froz hX3
    clear hB3 hX3 hP4
    unfold aggP
    go_wp2_with fail
    refine bodyPost_ret (v := aggP P4v) (by rw [results_cell1 rfl]; unfold aggP; go_simp) rfl ?_
    exact ⟨(((HB3.out.setCell (p := ⟨w.heap.size, 0, none⟩) (Nat.le_refl _) _).setCell (p := ⟨w.heap.size, 1, none⟩) (Nat.le_refl _) _).setCell (p := ⟨w.heap.size, 2, none⟩) (Nat.le_refl _) _).setCell (p := ⟨w.heap.size, 3, none⟩) (Nat.le_refl _) _, .inr ⟨_, rfl, by rw [HP4.out]⟩⟩
  · rw [if_pos (by omega)]
    go_enter Tryd.func61, Tryd.ntmps61
    go_wp2_with fail
    generalize w.alloc (.cells #[.int .u16 0, .int .u16 0, .int .u16 0, .int .u16 0] 45) = w1 at *
    refine (place_no g c AC L.length cc _ (by omega) HP.out.c13).mono ?_
    rintro e w3 ⟨hpa, hB3⟩
    obtain rfl := hpa
    have HB3 := Lib.hid (HB.out.trans (hB3.mono HB.out.size))
    clear hB3
    go_wp2_with fail
    exact ⟨rfl, HB3.out, .inl ⟨rfl, rfl⟩⟩
end
end Go.Proofs.YthgafdbdmemkhaaDoor

namespace Go.Proofs.YthgafdbdmemkhaaDoor
set_option maxRecDepth 100000
set_option linter.unusedVariables false
open Go.ChangeShapes Go.WideShapes Go.ChangeAt Go.RowKit

theorem setPost.chg {B : Nat} {a b : Int} {ga n : Nat} {c : Nat → Nat} {x y : Int} {p : P4} {w w' : World} {e : Ending} (h : setPost B a b (some ⟨ga, 0, none⟩) n c x y p w e w') (hB : B ≤ w.heap.size) : Chg [ga] w w' := by
  obtain ⟨_, h1, h2, _⟩ := h
  have h1 := h1 hB
  refine ⟨h1.os, h1.tape, h1.output, h1.size, fun i hi hn => ?_⟩
  rw [h2 i _ (Array.getElem?_eq_getElem hi) (fun k _ hk => by cases hk; simp at hn; omega)]
  exact (Array.getElem?_eq_getElem hi).symm
/-- The pixels: as they were, or set. -/
structure PixS (w0 : World) (ga n4 : Nat) (ck cn : Nat → Nat) (w : World) : Prop where
  chg : Chg [ga] w0 w
  own : Own 0 w (some ⟨ga, 0, none⟩) n4 ck ∨ Own 0 w (some ⟨ga, 0, none⟩) n4 cn
theorem PixS.below {w0 : World} {ga n4 : Nat} {ck cn : Nat → Nat} {w w' : World} (h : PixS w0 ga n4 ck cn w) (hb : Below w.heap.size w w') : PixS w0 ga n4 ck cn w' :=
  ⟨h.1.trans (Chg.of_below hb), h.2.imp (fun h => h.below hb) (fun h => h.below hb)⟩
theorem cell_bel {w w' : World} {p : Addr} {v : Value} (hb : Below w.heap.size w w') (h : w.cell? p = some v) : w'.cell? p = some v := (hb.cell (lt_of_cell h)).trans h
theorem setC_idem (c : Nat → Nat) (k : Nat) (p : P4) : setC (setC c k p) k p = setC c k p := by
  funext j
  unfold setC
  (repeat' split) <;> rfl
theorem set_S (W H n4 cap' x y : Nat) (ga : Nat) (P : P4) (hn : n4 ≤ cap') (hc : cap' ≤ maxLen) (hW : W ≤ 256) (hH : H ≤ 256) (hin : inB (W : Nat) (H : Nat) n4 (x : Nat) (y : Nat) = true) (w0 : World) (ck : Nat → Nat) (xI yI : Int) (hx : xI = (x : Nat)) (hy : yI = (y : Nat)) (w : World) (hS : PixS w0 ga n4 ck (setC ck (y * W + x) P) w) :
    Calls Tryd.prog 60 #[.agg #[.int .i64 (W : Nat), .int .i64 (H : Nat), .slice (some ⟨ga, 0, none⟩) n4 cap'], .int .i64 xI, .int .i64 yI, .agg #[.int .u16 (P.1 : Nat), .int .u16 (P.2.1 : Nat), .int .u16 (P.2.2.1 : Nat), .int .u16 (P.2.2.2 : Nat)]] w fun e w' =>
      e = .returned (.bool true) ∧ PixS w0 ga n4 ck (setC ck (y * W + x) P) w' ∧ Own 0 w' (some ⟨ga, 0, none⟩) n4 (setC ck (y * W + x) P) ∧ Chg [ga] w w' := by
  subst hx hy
  have key : ∀ c, setC c (y * W + x) P = setC ck (y * W + x) P → Own 0 w (some ⟨ga, 0, none⟩) n4 c → Calls Tryd.prog 60 #[.agg #[.int .i64 (W : Nat), .int .i64 (H : Nat), .slice (some ⟨ga, 0, none⟩) n4 cap'], .int .i64 (x : Nat), .int .i64 (y : Nat), .agg #[.int .u16 (P.1 : Nat), .int .u16 (P.2.1 : Nat), .int .u16 (P.2.2.1 : Nat), .int .u16 (P.2.2.2 : Nat)]] w fun e w' =>
      e = .returned (.bool true) ∧ PixS w0 ga n4 ck (setC ck (y * W + x) P) w' ∧ Own 0 w' (some ⟨ga, 0, none⟩) n4 (setC ck (y * W + x) P) ∧ Chg [ga] w w' := fun c hcc hO => by
    refine (set_any (W : Nat) (H : Nat) _ n4 cap' c (x : Nat) (y : Nat) P (by unfold In64; omega) (by unfold In64; omega) hn hc w hO).mono ?_
    rintro e w' hp
    have hch := hp.chg (Nat.zero_le _)
    obtain ⟨rfl, _, _, h3⟩ := hp
    have e1 : setD (W : Nat) (H : Nat) n4 c (x : Nat) (y : Nat) P = setC ck (y * W + x) P := by
      unfold setD
      rw [if_pos hin, ← hcc]
      congr 1
    rw [e1] at h3
    exact ⟨by rw [hin], ⟨hS.chg.trans hch, .inr h3⟩, h3, hch⟩
  rcases hS.own with h | h
  · exact key ck rfl h
  · exact key _ (setC_idem _ _ _) h
theorem cell_chg {w w' : World} {S : List Nat} {p : Addr} {v : Value} (hc : Chg S w w') (hp : p.block ∉ S) (h : w.cell? p = some v) : w'.cell? p = some v := by
  have hl := lt_of_cell h
  have hblk := hc.block p.block hl hp
  unfold World.cell? at h ⊢
  rw [hblk]
  exact h
end Go.Proofs.YthgafdbdmemkhaaDoor

namespace Go.Proofs.YthgafdbdmemkhaaDoor
set_option maxRecDepth 100000
set_option linter.unusedVariables false
open Go.ChangeShapes Go.WideShapes Go.ChangeAt Go.RowKit

/-- A reader that draws runs: its own block g, the picture's samples in ga. -/
structure RnS (g ga W H n4 cap' v x y : Nat) (AC : Option Addr) (cc : Nat) (L : List P4) (cs : Array Value) (w : World) : Prop where
  hR : w.heap[g]? = some (.cells cs 71 (0, 0))
  q3 : cs[3]? = some (.int .i64 (W : Nat))
  q4 : cs[4]? = some (.int .i64 (H : Nat))
  q13 : cs[13]? = some (.slice AC L.length cc)
  q14 : cs[14]? = some (.int .i64 (W : Nat))
  q15 : cs[15]? = some (.int .i64 (H : Nat))
  q16 : cs[16]? = some (.slice (some ⟨ga, 0, none⟩) n4 cap')
  q18 : cs[18]? = some (.int .i64 (x : Nat))
  q19 : cs[19]? = some (.int .i64 (y : Nat))
  hS : Sl w (.slice AC L.length cc) 4 L.length (cellsP L)
set_option maxRecDepth 100000 in
set_option maxHeartbeats 1000000 in
theorem put_out (g ga W H n4 cap' v x y : Nat) (AC : Option Addr) (cc : Nat) (L : List P4) (cs : Array Value) (w : World) (h : RnS g ga W H n4 cap' v x y AC cc L cs w) (hxy : W ≤ x ∨ H ≤ y) :
    Calls Tryd.prog 65 #[.pointer (some ⟨g, 0, none⟩), .int .i64 (v : Nat)] w fun e w' => PanB 4 e ∧ ∃ k, w' = w.drewN k := by
  have c3 := hp_cell (j := 3) h.hR h.q3
  have c4 := hp_cell (j := 4) h.hR h.q4
  have c18 := hp_cell (j := 18) h.hR h.q18
  have c19 := hp_cell (j := 19) h.hR h.q19
  clear h
  by_cases h1 : x < W
  · have t1 : decide ((x : Int) < (W : Int)) = true := by simp; omega
    have t2 : decide (x < W) = true := by simp; omega
    have t3 : (y < H) = False := eq_false (by omega)
    clear hxy h1
    go_enter Tryd.func65, Tryd.ntmps65
    go_upto_region 0 with fail
    go_still_tail 20, (by kernel_rfl)
    repeat still_step
    try refine wpStill_nil ?_
    change wpList _ _ _ _ _ w.drew
    go_wp2_with fail
    refine (bmust_no 4 _).mono ?_
    rintro e w1 ⟨hp, rfl⟩
    obtain rfl := hp
    go_wp2_with fail
    exact ⟨rfl, rfl, 1, rfl⟩
  · have t1 : decide ((x : Int) < (W : Int)) = false := by simp; omega
    have t2 : decide (x < W) = false := by simp; omega
    clear hxy h1
    go_enter Tryd.func65, Tryd.ntmps65
    go_upto_region 0 with fail
    refine wp_region_still_tail 20 (by kernel_rfl) (by kernel_rfl) ?_
    simp only [List.take_succ_cons, List.take_zero, List.drop_succ_cons, List.drop_zero]
    repeat (with_reducible refine wpStill_step (fun K hK => ?_); go_simp; with_reducible refine hK _ ?_; clear hK K)
    with_reducible refine wpStill_nil ?_
    change wpList _ _ _ _ _ w.drew
    go_wp2_with fail
    refine (bmust_no 4 _).mono ?_
    rintro e w1 ⟨hp, rfl⟩
    obtain rfl := hp
    go_wp2_with fail
    exact ⟨rfl, rfl, 1, rfl⟩
end Go.Proofs.YthgafdbdmemkhaaDoor

namespace Go.Proofs.YthgafdbdmemkhaaDoor
set_option maxRecDepth 100000
set_option linter.unusedVariables false
open Go.ChangeShapes Go.WideShapes Go.ChangeAt Go.RowKit

theorem Sl.chg {S : List Nat} {w w' : World} {A : Option Addr} {n cap size : Nat} {xs : List Value} (h : Sl w (.slice A n cap) size n xs) (hc : Chg S w w') (hA : ∀ a, A = some a → a.block ∉ S) : Sl w' (.slice A n cap) size n xs := by
  obtain ⟨hl, A', cap', e, h1, h2, h3⟩ := h
  cases e
  refine ⟨hl, A, cap, rfl, h1, h2, fun hn => ?_⟩
  obtain ⟨b, off, rfl, hlt, hcc⟩ := h3 hn
  have hb := hc.block b hlt (hA _ rfl)
  refine ⟨b, off, rfl, Nat.lt_of_lt_of_le hlt hc.size, fun j hj => ?_⟩
  rw [← hcc j hj]
  unfold World.cell?
  rw [hb]
theorem own_oth {B : Nat} {w : World} {ga g n : Nat} {c : Nat → Nat} (h : Own B w (some ⟨ga, 0, none⟩) n c) (hne : ¬ga = g) (i : Nat) (v : Value) : Own B (w.setCell ⟨g, i, none⟩ v) (some ⟨ga, 0, none⟩) n c := fun hn => by
  obtain ⟨g', cur, he, hB, hg, hs, hc⟩ := h hn
  cases he
  exact ⟨ga, _, rfl, hB, (Below.heap_setCell w _ v ga hne).trans hg, hs, hc⟩
theorem place_S (g ga n4 k : Nat) (AC : Option Addr) (cc : Nat) (L : List P4) (wc : World) (hk : k < L.length) (hL : L.length ≤ 256) (c13 : wc.cell? ⟨g, 13, none⟩ = some (.slice AC L.length cc)) (hS : Sl wc (.slice AC L.length cc) 4 L.length (cellsP L)) (hga : g ≠ ga) (hA : ∀ a, AC = some a → a.block ≠ ga) (ck cn : Nat → Nat) (P : P4) (hP : P = (L[k]?).getD (0, 0, 0, 0)) (w : World) (hX : PixS wc ga n4 ck cn w) :
    Calls Tryd.prog 66 #[.pointer (some ⟨g, 0, none⟩), .int .i64 (k : Nat)] w fun e w' => e = .returned (.agg #[.int .u16 (P.1 : Nat), .int .u16 (P.2.1 : Nat), .int .u16 (P.2.2.1 : Nat), .int .u16 (P.2.2.2 : Nat)]) ∧ Below w.heap.size w w' := by
  subst hP
  exact place_yes g k AC cc L w hk hL (cell_chg hX.chg (by simpa using hga) c13) (hS.chg hX.chg (fun a ha => by simpa using hA a ha))
set_option maxRecDepth 100000 in
set_option maxHeartbeats 2000000 in
theorem put_yes (g ga W H n4 cap' v x y : Nat) (AC : Option Addr) (cc : Nat) (L : List P4) (cs : Array Value) (w : World) (h : RnS g ga W H n4 cap' v x y AC cc L cs w) (hcs : cs.size = 21) (hx : x < W) (hy : y < H) (hW : W ≤ 256) (hH : H ≤ 256) (hv : v < L.length) (hL : L.length ≤ 256) (hga : g ≠ ga) (hA : ∀ a, AC = some a → a.block ≠ ga) (hn : n4 ≤ cap') (hmax : cap' ≤ maxLen) (hm : mayB (W : Nat) (H : Nat) n4 = true) (ck : Nat → Nat) (hO : Own 0 w (some ⟨ga, 0, none⟩) n4 ck) :
    Calls Tryd.prog 65 #[.pointer (some ⟨g, 0, none⟩), .int .i64 (v : Nat)] w fun e w' => e = .returned (.tuple #[]) ∧ Chg [g, ga] w w' ∧ w'.heap[g]? = some (.cells (cs.setIfInBounds 18 (.int .i64 (x + 1 : Nat))) 71 (0, 0)) ∧ Own 0 w' (some ⟨ga, 0, none⟩) n4 (setC ck ((H - 1 - y) * W + x) ((L[v]?).getD (0, 0, 0, 0))) := by
  have c3 := hp_cell (j := 3) h.hR h.q3
  have c4 := hp_cell (j := 4) h.hR h.q4
  have c13 := hp_cell (j := 13) h.hR h.q13
  have c14 := hp_cell (j := 14) h.hR h.q14
  have c15 := hp_cell (j := 15) h.hR h.q15
  have c16 := hp_cell (j := 16) h.hR h.q16
  have c18 := hp_cell (j := 18) h.hR h.q18
  have c19 := hp_cell (j := 19) h.hR h.q19
  have HSl := Lib.hid h.hS
  have h18 := Lib.hid h.q18
  have HR := Lib.hid h.hR
  have t1 : decide ((x : Int) < (W : Int)) = true := by simp; omega
  have t2 : decide ((y : Int) < (H : Int)) = true := by simp; omega
  obtain ⟨Z, hZ⟩ : ∃ Z, Z = H - 1 - y := ⟨_, rfl⟩
  have z1 : IntKind.i64.wrap ((H : Int) - 1) = (H : Int) - 1 := IntWalk.i64_in _ (by omega)
  have z2 : IntKind.i64.wrap ((H : Int) - 1 - (y : Int)) = (Z : Int) := by rw [IntWalk.i64_in _ (by omega)]; omega
  have hin : inB (W : Nat) (H : Nat) n4 (x : Int) (Z : Int) = true := inB_xy hm hx (by omega)
  obtain ⟨P, hP⟩ : ∃ P, P = (L[v]?).getD (0, 0, 0, 0) := ⟨_, rfl⟩
  rw [← hZ, ← hP]
  have HIN := Lib.hid hin
  have HP := Lib.hid hP
  have HO := Lib.hid hO
  have HA := Lib.hid hA
  have HC13 := Lib.hid c13
  have HV := Lib.hid hv
  clear h hin hP hO hA c13 hZ hm hv
  go_enter Tryd.func65, Tryd.ntmps65
  go_upto_region 0 with fail
  refine wp_region_still_tail 20 (by kernel_rfl) (by kernel_rfl) ?_
  simp only [List.take_succ_cons, List.take_zero, List.drop_succ_cons, List.drop_zero]
  repeat (with_reducible refine wpStill_step (fun K hK => ?_); go_simp; with_reducible refine hK _ ?_; clear hK K)
  with_reducible refine wpStill_nil ?_
  change wpList _ _ _ _ _ w.drew
  go_wp2_with fail
  refine (bmust_yes 4 _).mono ?_
  rintro e w1 ⟨rfl, rfl⟩
  obtain ⟨w1, hw1⟩ : ∃ w1, w1 = w.drew := ⟨_, rfl⟩
  have hbw : Below w.heap.size w w1 := hw1 ▸ (Below.refl _ w).drew
  have d4 := cell_bel hbw c4
  have d14 := cell_bel hbw c14
  have d15 := cell_bel hbw c15
  have d16 := cell_bel hbw c16
  have d18 := cell_bel hbw c18
  have d19 := cell_bel hbw c19
  have hPX : PixS w ga n4 ck (setC ck (Z * W + x) P) w1 := ⟨Chg.of_below hbw, .inl (HO.out.below hbw)⟩
  have hPXd := hPX.below ((Below.refl _ w1).drew)
  have hge : ¬g = ga := hga
  rw [← hw1]
  clear c3 c4 c14 c15 c16 c18 c19 hw1 hbw t1 t2
  go_upto_region 1 with fail
  go_region_held3 (fun w' => w'.cell? ⟨g, 4, none⟩ = some (.int .i64 (H : Nat)) ∧ w'.cell? ⟨g, 14, none⟩ = some (.int .i64 (W : Nat)) ∧ w'.cell? ⟨g, 15, none⟩ = some (.int .i64 (H : Nat)) ∧ w'.cell? ⟨g, 16, none⟩ = some (.slice (some ⟨ga, 0, none⟩) n4 cap') ∧ w'.cell? ⟨g, 18, none⟩ = some (.int .i64 (x : Nat)) ∧ w'.cell? ⟨g, 19, none⟩ = some (.int .i64 (y : Nat)) ∧ PixS w ga n4 ck (setC ck (Z * W + x) P) w')
    (first | go_keep | (go_split_ands; refine ⟨?_, ?_, ?_, ?_, ?_, ?_, ?_⟩ <;> first | with_reducible assumption | (with_reducible refine cell_bel hB ?_; with_reducible assumption) | (with_reducible refine PixS.below ?_ hB; with_reducible assumption)))
    (first | (go_at_call 66; refine (place_S g ga n4 v AC cc L w HV.out hL HC13.out HSl.out hga HA.out ck (setC ck (Z * W + x) P) P HP.out _ (by first | with_reducible assumption | (go_split_ands; with_reducible assumption))).mono ?_; rintro e w9 ⟨rfl, hB⟩) | (go_at_call 60; refine (set_S W H n4 cap' x Z ga P hn hmax hW hH HIN.out w ck _ _ rfl rfl _ (by first | with_reducible assumption | (go_split_ands; with_reducible assumption))).mono ?_; rintro e w10 ⟨rfl, hP9, hO9, hK9⟩; go_split_ands; have hq0 := cell_chg hK9 (p := ⟨g, 4, none⟩) (by simp; omega) (by with_reducible assumption); have hq1 := cell_chg hK9 (p := ⟨g, 14, none⟩) (by simp; omega) (by with_reducible assumption); have hq2 := cell_chg hK9 (p := ⟨g, 15, none⟩) (by simp; omega) (by with_reducible assumption); have hq3 := cell_chg hK9 (p := ⟨g, 16, none⟩) (by simp; omega) (by with_reducible assumption); have hq4 := cell_chg hK9 (p := ⟨g, 18, none⟩) (by simp; omega) (by with_reducible assumption); have hq5 := cell_chg hK9 (p := ⟨g, 19, none⟩) (by simp; omega) (by with_reducible assumption); clear hK9) | fail)
  have hch := (show PixS w ga n4 ck (setC ck (Z * W + x) P) w10 by first | with_reducible assumption | (go_split_ands; with_reducible assumption)).chg
  have hR10 : w10.heap[g]? = some (.cells cs 71 (0, 0)) := (hch.block g (lt_heap HR.out) (by simpa using hga)).trans HR.out
  have e18 := hp_cell (j := 18) hR10 h18.out
  have f18 := hp_froz hR10 18
  have xw : IntKind.i64.wrap ((x : Int) + 1) = ((x + 1 : Nat) : Int) := by rw [IntWalk.i64_in _ (by omega)]; omega
  have HO10 := Lib.hid hO9
  have HR10 := Lib.hid hR10
  have HC10 := Lib.hid hch
  have HG := Lib.hid (lt_heap HR.out)
  clear hO9 hR10 hch hB
  go_wp2_with fail
  go_end0
  refine ⟨rfl, ?_, heap_set HR10.out, ?_⟩
  · exact (HC10.out.mono (fun k hk => by simp at hk ⊢; exact .inr hk)).set (.inl (by simp)) 18 _
  · exact own_oth HO10.out (fun e => hga e.symm) 18 _
end Go.Proofs.YthgafdbdmemkhaaDoor
