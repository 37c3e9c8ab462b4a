/- engraverref14.ReadInfo on a file of 24 bits a pixel. -/
import Derived.Test.YthgafdbdmemkhaaDoorM6

namespace Go.Proofs.YthgafdbdmemkhaaDoor
set_option maxRecDepth 100000
set_option linter.unusedVariables false
open Go.ChangeShapes Go.WideShapes Go.ChangeAt Go.RowKit

/-- What a head says. -/
structure HeadD (d : Nat → Nat) (size a b bits kind : Nat) : Prop where
  lt : ∀ j, d j < 256
  b0 : d 0 = 66
  b1 : d 1 = 77
  at10 : lowD d 10 4 = 14 + size
  at14 : lowD d 14 4 = size
  at18 : lowD d 18 4 = a
  at22 : lowD d 22 4 = b
  at26 : lowD d 26 2 = 1
  at28 : lowD d 28 2 = bits
  at30 : lowD d 30 4 = kind
def infoV (a b bits kind off m0 m1 m2 m3 : Nat) : Value := .agg #[.int .i64 a, .int .i64 b, .int .i64 bits, .int .i64 kind, .int .i64 off, .bool false, .int .u32 m0, .int .u32 m1, .int .u32 m2, .int .u32 m3, .slice none 0 0]
theorem sgnV_small {x : Nat} (h : x ≤ 256) : sgnV x = (x : Int) := by unfold sgnV; rw [if_pos (by omega)]
theorem str_BM {d : Nat → Nat} (h0 : d 0 = 66) (h1 : d 1 = 77) : strB 2 d = { data := #[66, 77] } := by
  have h : (List.range 2).map (fun i => ((d i : Nat) : Int)) = [66, 77] := by simp [List.range_succ, h0, h1]
  unfold strB
  rw [h]
  rfl
set_option maxRecDepth 100000 in
set_option maxHeartbeats 4000000 in
theorem info_24 (A : Option Addr) (m cap : Nat) (d : Nat → Nat) (a b : Nat) (h : HeadD d 40 a b 24 0) (hm : 54 ≤ m ∧ m ≤ 262144) (hmc : m ≤ cap) (hcap : cap ≤ maxLen) (ha : 1 ≤ a ∧ a ≤ 256) (hb : 1 ≤ b ∧ b ≤ 256) (hz : sizeE a b = 0) (w : World) (hB : Byt w A m d) :
    Calls Tryd.prog 21 #[.slice A m cap] w fun e w' => e = .returned (.tuple #[infoV a b 24 0 54 0 0 0 0, .int .i64 0]) ∧ Below w.heap.size w w' := by
  obtain ⟨bk, off, rfl, hbl, hcl⟩ := hB (by omega)
  have HH := Lib.hid h
  have HMC := Lib.hid hmc
  have HCP := Lib.hid hcap
  have HRB := Lib.hid (hp_new0 w (.cells #[.int .i64 0, .int .i64 0, .int .i64 0, .int .i64 0, .int .i64 0, .bool false, .int .u32 0, .int .u32 0, .int .u32 0, .int .u32 0, .slice none 0 0] 57))
  have HBL := Lib.hid ((Below.refl _ w).alloc (Nat.le_refl _) (.cells #[.int .i64 0, .int .i64 0, .int .i64 0, .int .i64 0, .int .i64 0, .bool false, .int .u32 0, .int .u32 0, .int .u32 0, .int .u32 0, .slice none 0 0] 57))
  have HBY := Lib.hid (hB.below HBL.out)
  have hB2 : Byt (w.alloc (.cells #[.int .i64 0, .int .i64 0, .int .i64 0, .int .i64 0, .int .i64 0, .bool false, .int .u32 0, .int .u32 0, .int .u32 0, .int .u32 0, .slice none 0 0] 57)) (some ⟨bk, off, none⟩) 2 d := fun _ => ⟨bk, off, rfl, Nat.lt_of_lt_of_le hbl HBL.out.size, fun j hj => (HBL.out.cell (p := ⟨bk, off + j, none⟩) hbl).trans (hcl j (by omega))⟩
  have hs := (run_str (cap := cap) hB2).trans (by rw [str_BM h.b0 h.b1])
  clear h hB2
  unfold maxLen at hcap
  go_enter Tryd.func21, Tryd.ntmps21
  go_wp2_with fail
  generalize w.alloc (.cells #[.int .i64 0, .int .i64 0, .int .i64 0, .int .i64 0, .int .i64 0, .bool false, .int .u32 0, .int .u32 0, .int .u32 0, .int .u32 0, .slice none 0 0] 57) = W1 at *
  clear hcl hB
  refine (low_ref _ m cap d HH.out.lt 14 4 (by omega) (by omega) hmc HCP.out _ HBY.out).mono ?_
  rintro e wz ⟨rfl, hw⟩
  rw [hw]
  clear hw wz
  rw [HH.out.at14]
  go_wp2_with fail
  refine (signed_ref _ m cap d HH.out.lt 18 (by omega) hmc HCP.out _ HBY.out).mono ?_
  rintro e wz ⟨rfl, hw⟩
  rw [hw]
  clear hw wz
  rw [HH.out.at18, sgnV_small ha.2]
  go_wp2_with fail
  refine (signed_ref _ m cap d HH.out.lt 22 (by omega) hmc HCP.out _ HBY.out).mono ?_
  rintro e wz ⟨rfl, hw⟩
  rw [hw]
  clear hw wz
  rw [HH.out.at22, sgnV_small hb.2]
  go_wp2_with fail
  refine (low_ref _ m cap d HH.out.lt 28 2 (by omega) (by omega) hmc HCP.out _ HBY.out).mono ?_
  rintro e wz ⟨rfl, hw⟩
  rw [hw]
  clear hw wz
  rw [HH.out.at28]
  go_wp2_with fail
  refine (low_ref _ m cap d HH.out.lt 30 4 (by omega) (by omega) hmc HCP.out _ HBY.out).mono ?_
  rintro e wz ⟨rfl, hw⟩
  rw [hw]
  clear hw wz
  rw [HH.out.at30]
  go_wp2_with fail
  refine (low_ref _ m cap d HH.out.lt 10 4 (by omega) (by omega) hmc HCP.out _ HBY.out).mono ?_
  rintro e wz ⟨rfl, hw⟩
  rw [hw]
  clear hw wz
  rw [HH.out.at10]
  have hal : Below W1.heap.size W1 (W1.alloc (.cells #[.int .i64 a, .int .i64 b, .int .i64 24, .int .i64 0, .int .i64 54, .bool false, .int .u32 0, .int .u32 0, .int .u32 0, .int .u32 0, .slice none 0 0] 57)) := (Below.refl _ W1).alloc (Nat.le_refl _) _
  have HIB := Lib.hid (hp_new0 W1 (.cells #[.int .i64 a, .int .i64 b, .int .i64 24, .int .i64 0, .int .i64 54, .bool false, .int .u32 0, .int .u32 0, .int .u32 0, .int .u32 0, .slice none 0 0] 57))
  have HRB2 := Lib.hid (hp_alloc (.cells #[.int .i64 a, .int .i64 b, .int .i64 24, .int .i64 0, .int .i64 54, .bool false, .int .u32 0, .int .u32 0, .int .u32 0, .int .u32 0, .slice none 0 0] 57) HRB.out)
  have HBL2 := Lib.hid (HBL.out.trans (hal.mono HBL.out.size))
  have HBY2 := Lib.hid (HBY.out.below hal)
  have hlr : w.heap.size < W1.heap.size := lt_heap HRB.out
  clear hal hs
  go_wp2_with fail
  obtain ⟨g, hg⟩ : ∃ g, g = W1.heap.size := ⟨_, rfl⟩
  generalize W1.alloc (.cells #[.int .i64 a, .int .i64 b, .int .i64 24, .int .i64 0, .int .i64 54, .bool false, .int .u32 0, .int .u32 0, .int .u32 0, .int .u32 0, .slice none 0 0] 57) = W2 at *
  rw [← hg] at HIB hlr ⊢
  clear hg
  refine (low_ref _ m cap d HH.out.lt 26 2 (by omega) (by omega) hmc HCP.out _ HBY2.out).mono ?_
  rintro e wz ⟨rfl, hw⟩
  rw [hw]
  clear hw wz
  rw [HH.out.at26]
  have c0 := hp_cell (j := 0) HIB.out rfl
  have c1 := hp_cell (j := 1) HIB.out rfl
  have c2 := hp_cell (j := 2) HIB.out rfl
  have c3 := hp_cell (j := 3) HIB.out rfl
  have c4 := hp_cell (j := 4) HIB.out rfl
  have c5 := hp_cell (j := 5) HIB.out rfl
  have c6 := hp_cell (j := 6) HIB.out rfl
  have c7 := hp_cell (j := 7) HIB.out rfl
  have c8 := hp_cell (j := 8) HIB.out rfl
  have c9 := hp_cell (j := 9) HIB.out rfl
  have c10 := hp_cell (j := 10) HIB.out rfl
  have q1 : decide ((a : Int) < 1) = false := decide_eq_false (by omega)
  have q2 : ((b : Int) == 0) = false := beq_eq_false_iff_ne.2 (by omega)
  have q3 : decide ((b : Int) < 0) = false := decide_eq_false (by omega)
  go_wp2_with fail
  refine (size_ref a b (by unfold In64; omega) (by unfold In64; omega) _).mono ?_
  rintro e wz ⟨rfl, hw⟩
  rw [← hw, hz]
  clear hw wz
  have z0 := hp_cell (j := 0) HRB2.out rfl
  have z1 := hp_cell (j := 1) HRB2.out rfl
  have z2 := hp_cell (j := 2) HRB2.out rfl
  have z3 := hp_cell (j := 3) HRB2.out rfl
  have z4 := hp_cell (j := 4) HRB2.out rfl
  have z5 := hp_cell (j := 5) HRB2.out rfl
  have z6 := hp_cell (j := 6) HRB2.out rfl
  have z7 := hp_cell (j := 7) HRB2.out rfl
  have z8 := hp_cell (j := 8) HRB2.out rfl
  have z9 := hp_cell (j := 9) HRB2.out rfl
  have z10 := hp_cell (j := 10) HRB2.out rfl
  have zf := hp_froz HRB2.out
  go_wp2_with fail
  refine bodyPost_ret (v := .tuple #[infoV a b 24 0 54 0 0 0 0, .int .i64 0]) (by rw [results_cell_tmp rfl]; unfold infoV; go_simp) rfl ?_
  refine ⟨rfl, ?_⟩
  exact (((((((((((HBL2.out.setCell (p := ⟨w.heap.size, 0, none⟩) (by simp) _).setCell (p := ⟨w.heap.size, 1, none⟩) (by simp) _).setCell (p := ⟨w.heap.size, 2, none⟩) (by simp) _).setCell (p := ⟨w.heap.size, 3, none⟩) (by simp) _).setCell (p := ⟨w.heap.size, 4, none⟩) (by simp) _).setCell (p := ⟨w.heap.size, 5, none⟩) (by simp) _).setCell (p := ⟨w.heap.size, 6, none⟩) (by simp) _).setCell (p := ⟨w.heap.size, 7, none⟩) (by simp) _).setCell (p := ⟨w.heap.size, 8, none⟩) (by simp) _).setCell (p := ⟨w.heap.size, 9, none⟩) (by simp) _).setCell (p := ⟨w.heap.size, 10, none⟩) (by simp) _)
def mk8 : Nat → Nat
  | 0 => 16711680
  | 1 => 65280
  | 2 => 255
  | 3 => 4278190080
  | _ => 0
theorem mk8_lt (i : Nat) : mk8 i < 4294967296 := by unfold mk8; split <;> omega
/-- The masks of a file of 32 bits a pixel. -/
structure MaskD (d : Nat → Nat) : Prop where
  m0 : lowD d 54 4 = 16711680
  m1 : lowD d 58 4 = 65280
  m2 : lowD d 62 4 = 255
  m3 : lowD d 66 4 = 4278190080
set_option maxRecDepth 100000 in
set_option maxHeartbeats 4000000 in
theorem info_32 (A : Option Addr) (m cap : Nat) (d : Nat → Nat) (a b : Nat) (h : HeadD d 108 a b 32 3) (hk : MaskD d) (hm : 122 ≤ m ∧ m ≤ 262144) (hmc : m ≤ cap) (hcap : cap ≤ maxLen) (ha : 1 ≤ a ∧ a ≤ 256) (hb : 1 ≤ b ∧ b ≤ 256) (hz : sizeE a b = 0) (w : World) (hB : Byt w A m d) :
    Calls Tryd.prog 21 #[.slice A m cap] w fun e w' => e = .returned (.tuple #[infoV a b 32 3 122 16711680 65280 255 4278190080, .int .i64 0]) ∧ Below w.heap.size w w' := by
  obtain ⟨bk, off, rfl, hbl, hcl⟩ := hB (by omega)
  have HH := Lib.hid h
  have HMK := Lib.hid hk
  have HMC := Lib.hid hmc
  have HCP := Lib.hid hcap
  have HRB := Lib.hid (hp_new0 w (.cells #[.int .i64 0, .int .i64 0, .int .i64 0, .int .i64 0, .int .i64 0, .bool false, .int .u32 0, .int .u32 0, .int .u32 0, .int .u32 0, .slice none 0 0] 57))
  have HBL := Lib.hid ((Below.refl _ w).alloc (Nat.le_refl _) (.cells #[.int .i64 0, .int .i64 0, .int .i64 0, .int .i64 0, .int .i64 0, .bool false, .int .u32 0, .int .u32 0, .int .u32 0, .int .u32 0, .slice none 0 0] 57))
  have HBY := Lib.hid (hB.below HBL.out)
  have hB2 : Byt (w.alloc (.cells #[.int .i64 0, .int .i64 0, .int .i64 0, .int .i64 0, .int .i64 0, .bool false, .int .u32 0, .int .u32 0, .int .u32 0, .int .u32 0, .slice none 0 0] 57)) (some ⟨bk, off, none⟩) 2 d := fun _ => ⟨bk, off, rfl, Nat.lt_of_lt_of_le hbl HBL.out.size, fun j hj => (HBL.out.cell (p := ⟨bk, off + j, none⟩) hbl).trans (hcl j (by omega))⟩
  have hs := (run_str (cap := cap) hB2).trans (by rw [str_BM h.b0 h.b1])
  clear h hB2
  unfold maxLen at hcap
  go_enter Tryd.func21, Tryd.ntmps21
  go_wp2_with fail
  generalize w.alloc (.cells #[.int .i64 0, .int .i64 0, .int .i64 0, .int .i64 0, .int .i64 0, .bool false, .int .u32 0, .int .u32 0, .int .u32 0, .int .u32 0, .slice none 0 0] 57) = W1 at *
  clear hcl hB
  refine (low_ref _ m cap d HH.out.lt 14 4 (by omega) (by omega) hmc HCP.out _ HBY.out).mono ?_
  rintro e wz ⟨rfl, hw⟩
  rw [hw]
  clear hw wz
  rw [HH.out.at14]
  go_wp2_with fail
  refine (signed_ref _ m cap d HH.out.lt 18 (by omega) hmc HCP.out _ HBY.out).mono ?_
  rintro e wz ⟨rfl, hw⟩
  rw [hw]
  clear hw wz
  rw [HH.out.at18, sgnV_small ha.2]
  go_wp2_with fail
  refine (signed_ref _ m cap d HH.out.lt 22 (by omega) hmc HCP.out _ HBY.out).mono ?_
  rintro e wz ⟨rfl, hw⟩
  rw [hw]
  clear hw wz
  rw [HH.out.at22, sgnV_small hb.2]
  go_wp2_with fail
  refine (low_ref _ m cap d HH.out.lt 28 2 (by omega) (by omega) hmc HCP.out _ HBY.out).mono ?_
  rintro e wz ⟨rfl, hw⟩
  rw [hw]
  clear hw wz
  rw [HH.out.at28]
  go_wp2_with fail
  refine (low_ref _ m cap d HH.out.lt 30 4 (by omega) (by omega) hmc HCP.out _ HBY.out).mono ?_
  rintro e wz ⟨rfl, hw⟩
  rw [hw]
  clear hw wz
  rw [HH.out.at30]
  go_wp2_with fail
  refine (low_ref _ m cap d HH.out.lt 10 4 (by omega) (by omega) hmc HCP.out _ HBY.out).mono ?_
  rintro e wz ⟨rfl, hw⟩
  rw [hw]
  clear hw wz
  rw [HH.out.at10]
  have hal : Below W1.heap.size W1 (W1.alloc (.cells #[.int .i64 a, .int .i64 b, .int .i64 32, .int .i64 3, .int .i64 122, .bool false, .int .u32 0, .int .u32 0, .int .u32 0, .int .u32 0, .slice none 0 0] 57)) := (Below.refl _ W1).alloc (Nat.le_refl _) _
  have HIB := Lib.hid (hp_new0 W1 (.cells #[.int .i64 a, .int .i64 b, .int .i64 32, .int .i64 3, .int .i64 122, .bool false, .int .u32 0, .int .u32 0, .int .u32 0, .int .u32 0, .slice none 0 0] 57))
  have HRB2 := Lib.hid (hp_alloc (.cells #[.int .i64 a, .int .i64 b, .int .i64 32, .int .i64 3, .int .i64 122, .bool false, .int .u32 0, .int .u32 0, .int .u32 0, .int .u32 0, .slice none 0 0] 57) HRB.out)
  have HBL2 := Lib.hid (HBL.out.trans (hal.mono HBL.out.size))
  have HBY2 := Lib.hid (HBY.out.below hal)
  have hlr : w.heap.size < W1.heap.size := lt_heap HRB.out
  clear hal hs
  go_wp2_with fail
  obtain ⟨g, hg⟩ : ∃ g, g = W1.heap.size := ⟨_, rfl⟩
  generalize W1.alloc (.cells #[.int .i64 a, .int .i64 b, .int .i64 32, .int .i64 3, .int .i64 122, .bool false, .int .u32 0, .int .u32 0, .int .u32 0, .int .u32 0, .slice none 0 0] 57) = W2 at *
  rw [← hg] at HIB hlr ⊢
  clear hg
  refine (low_ref _ m cap d HH.out.lt 26 2 (by omega) (by omega) hmc HCP.out _ HBY2.out).mono ?_
  rintro e wz ⟨rfl, hw⟩
  rw [hw]
  clear hw wz
  rw [HH.out.at26]
  have c0 := hp_cell (j := 0) HIB.out rfl
  have c1 := hp_cell (j := 1) HIB.out rfl
  have c2 := hp_cell (j := 2) HIB.out rfl
  have c3 := hp_cell (j := 3) HIB.out rfl
  have c4 := hp_cell (j := 4) HIB.out rfl
  have c5 := hp_cell (j := 5) HIB.out rfl
  have c6 := hp_cell (j := 6) HIB.out rfl
  have c7 := hp_cell (j := 7) HIB.out rfl
  have c8 := hp_cell (j := 8) HIB.out rfl
  have c9 := hp_cell (j := 9) HIB.out rfl
  have c10 := hp_cell (j := 10) HIB.out rfl
  have q1 : decide ((a : Int) < 1) = false := decide_eq_false (by omega)
  have q2 : ((b : Int) == 0) = false := beq_eq_false_iff_ne.2 (by omega)
  have q3 : decide ((b : Int) < 0) = false := decide_eq_false (by omega)
  go_wp2_with fail
  refine (size_ref a b (by unfold In64; omega) (by unfold In64; omega) _).mono ?_
  rintro e wz ⟨rfl, hw⟩
  rw [← hw, hz]
  clear hw wz
  have gf := hp_froz HIB.out
  have hgl := lt_heap HIB.out
  have hm32 : (#[Value.int .i64 a, .int .i64 b, .int .i64 32, .int .i64 3, .int .i64 122, .bool false, .int .u32 0, .int .u32 0, .int .u32 0, .int .u32 0, .slice none 0 0] : Array Value).size = 11 := rfl
  go_wp2_with fail
  have hs6 := heap_set (i := 9) (x := .int .u32 0) (heap_set (i := 8) (x := .int .u32 255) (heap_set (i := 7) (x := .int .u32 65280) (heap_set (i := 6) (x := .int .u32 16711680) HIB.out)))
  have hB6 := (((HBL2.out.setCell (p := ⟨g, 6, none⟩) (by simp; omega) (.int .u32 16711680)).setCell (p := ⟨g, 7, none⟩) (by simp; omega) (.int .u32 65280)).setCell (p := ⟨g, 8, none⟩) (by simp; omega) (.int .u32 255)).setCell (p := ⟨g, 9, none⟩) (by simp; omega) (.int .u32 0)
  have hR6 : ((((W2.setCell ⟨g, 6, none⟩ (.int .u32 16711680)).setCell ⟨g, 7, none⟩ (.int .u32 65280)).setCell ⟨g, 8, none⟩ (.int .u32 255)).setCell ⟨g, 9, none⟩ (.int .u32 0)).heap[w.heap.size]? = some (.cells #[.int .i64 0, .int .i64 0, .int .i64 0, .int .i64 0, .int .i64 0, .bool false, .int .u32 0, .int .u32 0, .int .u32 0, .int .u32 0, .slice none 0 0] 57 (0, 0)) := hp_oth (hp_oth (hp_oth (hp_oth HRB2.out (by omega)) (by omega)) (by omega)) (by omega)
  have hc6 : Chg [g] W2 ((((W2.setCell ⟨g, 6, none⟩ (.int .u32 16711680)).setCell ⟨g, 7, none⟩ (.int .u32 65280)).setCell ⟨g, 8, none⟩ (.int .u32 255)).setCell ⟨g, 9, none⟩ (.int .u32 0)) := ((((Chg.refl [g] W2).set (.inl (by simp)) 6 (.int .u32 16711680)).set (.inl (by simp)) 7 (.int .u32 65280)).set (.inl (by simp)) 8 (.int .u32 255)).set (.inl (by simp)) 9 (.int .u32 0)
  have hY6 := HBY2.out.chg hc6 (fun _ x hx => by cases hx; simp; omega)
  have HS6 := Lib.hid (show ((((W2.setCell ⟨g, 6, none⟩ (.int .u32 16711680)).setCell ⟨g, 7, none⟩ (.int .u32 65280)).setCell ⟨g, 8, none⟩ (.int .u32 255)).setCell ⟨g, 9, none⟩ (.int .u32 0)).heap[g]? = some (.cells #[.int .i64 a, .int .i64 b, .int .i64 32, .int .i64 3, .int .i64 122, .bool false, .int .u32 16711680, .int .u32 65280, .int .u32 255, .int .u32 0, .slice none 0 0] 57 (0, 0)) from hs6)
  have HB6 := Lib.hid hB6
  have HR6 := Lib.hid hR6
  have HY6 := Lib.hid hY6
  clear hs6 hB6 hR6 hY6 hc6 hm32 gf hgl c0 c1 c2 c3 c4 c5 c6 c7 c8 c9 c10
  generalize ((((W2.setCell ⟨g, 6, none⟩ (.int .u32 16711680)).setCell ⟨g, 7, none⟩ (.int .u32 65280)).setCell ⟨g, 8, none⟩ (.int .u32 255)).setCell ⟨g, 9, none⟩ (.int .u32 0)) = W3 at *
  go_loopw [11] (fun x wr => ∃ i : Nat, i ≤ 4 ∧ x = .int .i64 (i : Nat) ∧ Below w.heap.size w wr ∧ wr.heap[w.heap.size]? = some (.cells #[.int .i64 0, .int .i64 0, .int .i64 0, .int .i64 0, .int .i64 0, .bool false, .int .u32 0, .int .u32 0, .int .u32 0, .int .u32 0, .slice none 0 0] 57 (0, 0)) ∧ wr.heap[g]? = some (.cells #[.int .i64 a, .int .i64 b, .int .i64 32, .int .i64 3, .int .i64 122, .bool false, .int .u32 16711680, .int .u32 65280, .int .u32 255, .int .u32 (if i < 4 then 0 else 4278190080), .slice none 0 0] 57 (0, 0)) ∧ Byt wr (some ⟨bk, off, none⟩) m d) (fun x _ => 4 - (intOf x).toNat)
  case atStart => exact ⟨0, by omega, rfl, HB6.out, HR6.out, HS6.out, HY6.out⟩
  case round =>
    obtain ⟨i, hi4, rfl, hB7, hR7, hS7, hY7⟩ := hrel
    by_cases hlt : i < 4
    · obtain ⟨q, hq⟩ : ∃ q, q = 54 + 4 * i := ⟨_, rfl⟩
      obtain ⟨p4, hp4⟩ : ∃ p4, p4 = 4 * i := ⟨_, rfl⟩
      have e1 : (4 : Int) * (i : Int) = (p4 : Int) := by omega
      have e2 : (54 : Int) + (p4 : Int) = (q : Int) := by omega
      have hq9 : q + 4 ≤ m := by omega
      obtain ⟨mi, hmi, hm32⟩ : ∃ mi, lowD d q 4 = mi ∧ mi < 4294967296 ∧ ((#[Value.int .i64 a, .int .i64 b, .int .i64 32, .int .i64 3, .int .i64 122, .bool false, .int .u32 16711680, .int .u32 65280, .int .u32 255, .int .u32 (if i < 4 then 0 else 4278190080), .slice none 0 0] : Array Value).setIfInBounds (6 + i) (.int .u32 (mi : Nat)) = #[Value.int .i64 a, .int .i64 b, .int .i64 32, .int .i64 3, .int .i64 122, .bool false, .int .u32 16711680, .int .u32 65280, .int .u32 255, .int .u32 (if i + 1 < 4 then 0 else 4278190080), .slice none 0 0]) := by
        have h : i = 0 ∨ i = 1 ∨ i = 2 ∨ i = 3 := by omega
        rcases h with rfl | rfl | rfl | rfl <;> subst hq
        · exact ⟨_, HMK.out.m0, by omega, rfl⟩
        · exact ⟨_, HMK.out.m1, by omega, rfl⟩
        · exact ⟨_, HMK.out.m2, by omega, rfl⟩
        · exact ⟨_, HMK.out.m3, by omega, rfl⟩
      obtain ⟨hm32, hset⟩ := hm32
      obtain ⟨ov, cp⟩ : ∃ ov, wr.cell? ⟨g, 6 + i, none⟩ = some ov := ⟨_, hp_cell hS7 (Array.getElem?_eq_getElem (by simp; omega))⟩
      have fp := hp_froz hS7 (6 + i)
      have e3 : IntKind.u32.wrap (mi : Int) = (mi : Int) := IntWalk.u32_in _ (by omega)
      have HMI := Lib.hid hmi
      have HSET := Lib.hid hset
      have HB7 := Lib.hid hB7
      have HR7 := Lib.hid hR7
      have HS7 := Lib.hid hS7
      have HY7 := Lib.hid hY7
      clear hq hmi hset hB7 hR7 hS7 hY7 hp4
      go_wp2_with fail
      refine (low_ref _ m cap d HH.out.lt q 4 (by omega) hq9 hmc HCP.out _ HY7.out).mono ?_
      rintro e wz ⟨rfl, hw⟩
      rw [hw, HMI.out]
      clear hw wz
      go_wp2_with fail
      go_roundw
      case rel => exact ⟨i + 1, hlt, by go_num, HB7.out.setCell (p := ⟨g, 6 + i, none⟩) (by simp; omega) _, hp_oth HR7.out (by omega), HSET.out ▸ heap_set HS7.out, HY7.out.chg ((Chg.refl [g] wr).set (.inl (by simp)) (6 + i) _) (fun _ x hx => by cases hx; simp; omega)⟩
      case measure => simp [intOf]; omega
    · have hi : i = 4 := by omega
      rw [if_neg hlt] at hS7
      have c0 := hp_cell (j := 0) hS7 rfl
      have c1 := hp_cell (j := 1) hS7 rfl
      have c2 := hp_cell (j := 2) hS7 rfl
      have c3 := hp_cell (j := 3) hS7 rfl
      have c4 := hp_cell (j := 4) hS7 rfl
      have c5 := hp_cell (j := 5) hS7 rfl
      have c6 := hp_cell (j := 6) hS7 rfl
      have c7 := hp_cell (j := 7) hS7 rfl
      have c8 := hp_cell (j := 8) hS7 rfl
      have c9 := hp_cell (j := 9) hS7 rfl
      have c10 := hp_cell (j := 10) hS7 rfl
      have HB7 := Lib.hid hB7
      have HR7 := Lib.hid hR7
      have HS7 := Lib.hid hS7
      clear hi hB7 hR7 hS7 hY7 HB6 HR6 HS6 HY6
      go_wp2_with fail
      have hmt : masksB mk8 32 = true := by decide
      refine (masks_ref mk8 (fun i => mk8_lt i) 32 (by omega) _).mono ?_
      rintro e w8 ⟨rfl, hB⟩
      rw [hmt]
      have HB8 := Lib.hid (HB7.out.trans (hB.mono HB7.out.size))
      have hR8 := hp_below HR7.out hB (lt_heap HR7.out)
      have hS8 := hp_below HS7.out hB (lt_heap HS7.out)
      clear hB hmt c0 c1 c2 c3 c4 c5 c6 c7 c8 c9 c10
      have c0 := hp_cell (j := 0) hS8 rfl
      have c1 := hp_cell (j := 1) hS8 rfl
      have c2 := hp_cell (j := 2) hS8 rfl
      have c3 := hp_cell (j := 3) hS8 rfl
      have c4 := hp_cell (j := 4) hS8 rfl
      have c5 := hp_cell (j := 5) hS8 rfl
      have c6 := hp_cell (j := 6) hS8 rfl
      have c7 := hp_cell (j := 7) hS8 rfl
      have c8 := hp_cell (j := 8) hS8 rfl
      have c9 := hp_cell (j := 9) hS8 rfl
      have c10 := hp_cell (j := 10) hS8 rfl
      clear hS8
      have z0 := hp_cell (j := 0) hR8 rfl
      have z1 := hp_cell (j := 1) hR8 rfl
      have z2 := hp_cell (j := 2) hR8 rfl
      have z3 := hp_cell (j := 3) hR8 rfl
      have z4 := hp_cell (j := 4) hR8 rfl
      have z5 := hp_cell (j := 5) hR8 rfl
      have z6 := hp_cell (j := 6) hR8 rfl
      have z7 := hp_cell (j := 7) hR8 rfl
      have z8 := hp_cell (j := 8) hR8 rfl
      have z9 := hp_cell (j := 9) hR8 rfl
      have z10 := hp_cell (j := 10) hR8 rfl
      have zf := hp_froz hR8
      clear hR8
      go_wp2_with fail
      refine bodyPost_ret (v := .tuple #[infoV a b 32 3 122 16711680 65280 255 4278190080, .int .i64 0]) (by rw [results_cell_tmp rfl]; unfold infoV; go_simp) rfl ?_
      refine ⟨rfl, ?_⟩
      exact (((((((((((HB8.out.setCell (p := ⟨w.heap.size, 0, none⟩) (by simp) _).setCell (p := ⟨w.heap.size, 1, none⟩) (by simp) _).setCell (p := ⟨w.heap.size, 2, none⟩) (by simp) _).setCell (p := ⟨w.heap.size, 3, none⟩) (by simp) _).setCell (p := ⟨w.heap.size, 4, none⟩) (by simp) _).setCell (p := ⟨w.heap.size, 5, none⟩) (by simp) _).setCell (p := ⟨w.heap.size, 6, none⟩) (by simp) _).setCell (p := ⟨w.heap.size, 7, none⟩) (by simp) _).setCell (p := ⟨w.heap.size, 8, none⟩) (by simp) _).setCell (p := ⟨w.heap.size, 9, none⟩) (by simp) _).setCell (p := ⟨w.heap.size, 10, none⟩) (by simp) _)
end Go.Proofs.YthgafdbdmemkhaaDoor
