/- BitsKnown: the walk. -/
import Derived.Test.YthcijcdeecmnmaaKn
import Derived.Test.YthcijcdeecmnmaaEndsW
namespace Go.Proofs.Ythcijcdeecmnmaa
set_option linter.unusedVariables false
open Go.ChangeShapes Go.WideShapes Go.ChangeAt Go.RowKit

theorem ent_kn1 (caps : Array Value) : Enters 25 caps := fun W => by kernel_rfl
theorem ent_kn2 (caps : Array Value) : Enters 26 caps := fun W => by kernel_rfl
theorem ent_kn3 (caps : Array Value) : Enters 27 caps := fun W => by kernel_rfl
theorem ent_kn4 (caps : Array Value) : Enters 28 caps := fun W => by kernel_rfl
theorem ent_kn5 (caps : Array Value) : Enters 29 caps := fun W => by kernel_rfl
theorem ent_kn6 (caps : Array Value) : Enters 32 caps := fun W => by kernel_rfl
def b1234 (i : Nat) : Nat := i % 4 + 1
theorem b1234_lt (i : Nat) : b1234 i < 256 := by unfold b1234; omega
theorem byt_four (w : World) : Byt (w.alloc (.cells #[.int .u8 1, .int .u8 2, .int .u8 3, .int .u8 4] 5)) (some ⟨w.heap.size, 0, none⟩) 4 b1234 := fun _ => ⟨w.heap.size, 0, rfl, by simp, fun j hj => by
  have h : j = 0 ∨ j = 1 ∨ j = 2 ∨ j = 3 := by omega
  rcases h with rfl | rfl | rfl | rfl <;> exact hp_cell (hp_new0 _ _) rfl⟩
theorem Rd.low {T : TypeId} {g : Nat} {A : Option Addr} {n cap : Nat} {b : Nat → Nat} {p : Nat} {vo : Value} {fr : Int} {w w' : World} (h : Rd T g A n cap b p vo fr w) (hb : Below w.heap.size w w') : Rd T g A n cap b p vo fr w' :=
  h.chg (Chg.of_below (S := []) hb) (by simp) (fun _ _ _ => by simp)
theorem hp_low {w w' : World} {B : Nat} {o : Obj} (h : w.heap[B]? = some o) (hb : Below w.heap.size w w') : w'.heap[B]? = some o := hp_below h hb (lt_heap h)
theorem low_trans {w w1 w2 : World} (h : Below w.heap.size w w1) (k : Below w1.heap.size w1 w2) : Below w.heap.size w w2 := h.trans (k.mono h.size)
theorem four_num : takeL b1234 0 24 = 197121 := by decide
theorem five_puts : putsL 5 [] 0 3 = ([5], 5) := by decide
theorem five_str : strB 1 (fun _ => 5) = ⟨#[5]⟩ := by decide
set_option maxRecDepth 100000 in
set_option maxHeartbeats 1000000 in
theorem known_walk (w : World) : Calls Try.prog 5 #[] w fun e w' => e = .returned (.bool true) ∧ Below w.heap.size w w' := by
  have hmf : ∀ (fn : Fn) (first cap : Array Value) (w : World), (Instr.makeFunc fn first cap).run Try.prog w = .ok (.func fn first cap) w := fun _ _ _ _ => rfl
  go_enter Try.func5, Try.ntmps5
  go_wp2_with fail
  refine (awake1 _).mono ?_
  rintro e w1 ⟨rfl, hB1⟩
  have HB1 := Lib.hid hB1
  have hs1 := hB1.size
  clear hB1
  go_wp2_with fail
  refine (newL _ 4 4 b1234 (by omega) (by simp [maxLen]) (fun h => by cases h) (by omega) _ (byt_four w1)).mono ?_
  rintro e w2 ⟨g, A, c, rfl, hg, hR, hA, hB2⟩
  have HB2 := Lib.hid (low_trans HB1.out (low_trans ((Below.refl _ w1).alloc (Nat.le_refl _) _) hB2))
  have sz2 := hB2.size
  simp only [World.size_alloc] at hg hA sz2
  have lg := lt_heap hR.box
  have HR2 := Lib.hid hR
  clear hR hB2 HB1
  go_wp2_with fail
  have hBa : Below w2.heap.size w2 (w2.alloc (.cells #[.pointer (some ⟨g, 0, none⟩)] 37)) := (Below.refl _ w2).alloc (Nat.le_refl _) _
  have hl := hp_new0 w2 (.cells #[.pointer (some ⟨g, 0, none⟩)] 37)
  have hR3 := HR2.out.low hBa
  have HB3 := Lib.hid (low_trans HB2.out hBa)
  have hs3 : (w2.alloc (.cells #[.pointer (some ⟨g, 0, none⟩)] 37)).heap.size = w2.heap.size + 1 := World.size_alloc _ _
  generalize w2.alloc (.cells #[.pointer (some ⟨g, 0, none⟩)] 37) = w3 at *
  have HR3 := Lib.hid hR3
  have HL3 := Lib.hid hl
  clear hR3 hBa hl HR2 HB2
  refine (guard_no_b _ _ (ent_kn1 _) _ (kn_no1 w2.heap.size g A 4 c b1234 0 (by omega) (by omega) _ (hp_alloc _ HL3.out) (HR3.out.alloc _))).mono ?_
  rintro e w4 ⟨rfl, hB4⟩
  have HR4 := Lib.hid (HR3.out.low hB4)
  have HL4 := Lib.hid (hp_low HL3.out hB4)
  have HB4 := Lib.hid (low_trans HB3.out hB4)
  have hs4 := hB4.size
  clear hB4
  go_wp2_with fail
  refine (guard_no_b _ _ (ent_kn2 _) _ (kn_no2 w2.heap.size g A 4 c b1234 0 (by omega) (by omega) _ (hp_alloc _ HL4.out) (HR4.out.alloc _))).mono ?_
  rintro e w5 ⟨rfl, hB5⟩
  have HR5 := Lib.hid (HR4.out.low hB5)
  have HL5 := Lib.hid (hp_low HL4.out hB5)
  have HB5 := Lib.hid (low_trans HB4.out hB5)
  have hs5 := hB5.size
  clear hB5
  go_wp2_with fail
  obtain ⟨xb, hxb⟩ : ∃ xb, xb = w5.heap.size := ⟨_, rfl⟩
  have hx6 := hp_alloc (.cells #[.int .i64 0] 3) (hp_new0 w5 (.cells #[.int .i64 0] 3))
  have hy6 := hp_newk (w := w5.alloc (.cells #[.int .i64 0] 3)) (o := .cells #[.int .i64 0] 3) (World.size_alloc _ _)
  have hB6 : Below w5.heap.size w5 ((w5.alloc (.cells #[.int .i64 0] 3)).alloc (.cells #[.int .i64 0] 3)) := ((Below.refl _ w5).alloc (Nat.le_refl _) _).alloc (by simp) _
  have hs6 : ((w5.alloc (.cells #[.int .i64 0] 3)).alloc (.cells #[.int .i64 0] 3)).heap.size = w5.heap.size + 1 + 1 := by simp
  have HR6 := Lib.hid (HR5.out.low hB6)
  have HL6 := Lib.hid (hp_low HL5.out hB6)
  have HB6 := Lib.hid (low_trans HB5.out hB6)
  clear hB6
  generalize (w5.alloc (.cells #[.int .i64 0] 3)).alloc (.cells #[.int .i64 0] 3) = w6 at *
  rw [← hxb] at hx6 hy6 hs6 ⊢
  have HX6 := Lib.hid hx6
  have HY6 := Lib.hid hy6
  have hxg : g < xb := by omega
  have hxl : w2.heap.size < xb := by omega
  have hAx : ∀ a, A = some a → a.block < xb ∧ a.block ≠ w2.heap.size := fun a ha => by have := hA a ha; omega
  clear hx6 hy6 hxb hs3 hs4 hs5 HR3 HR4 HR5 HL3 HL4 HL5 HB3 HB4 HB5
  refine (guard_yes_b _ _ (ent_kn3 _) w6 [g, xb] (fun w' => Rd 46 g A 4 c b1234 24 (.slice none 0 0) 0 w' ∧ w'.heap[xb]? = some (.cells #[.int .i64 197121] 3 (0, 0))) (by simp; omega) (fun W h => ⟨h.1.set (by simp; omega) (fun _ a ha => by have := hAx a ha; omega) _ _, hp_oth h.2 (by omega)⟩) ?_).mono ?_
  · refine (kn_yes3 w2.heap.size g A 4 c b1234 0 (by omega) xb (by omega) b1234_lt _ (hp_alloc _ HL6.out) (hp_alloc _ HX6.out) (HR6.out.alloc _) (by omega) (fun _ a ha => by have := hAx a ha; omega)).mono ?_
    rintro e w' ⟨rfl, hC, hR, hx⟩
    rw [four_num] at hx
    exact ⟨rfl, hC, hR, hx⟩
  rintro e w7 ⟨rfl, hC7, hR7, hx7⟩
  have HR7 := Lib.hid hR7
  have HX7 := Lib.hid hx7
  have HL7 := Lib.hid (hp_chg HL6.out hC7 (by simp; omega))
  have HY7 := Lib.hid (hp_chg HY6.out hC7 (by simp; omega))
  have HB7 := Lib.hid (HB6.out.trans (hC7.below (B := w.heap.size) HB6.out.size (by simp; have := HB6.out.size; omega)))
  have hs7 := hC7.size
  clear hC7 hR7 hx7 HX6 HY6 HL6 HB6 HR6
  go_wp2_with fail
  refine (guard_yes_b _ _ (ent_kn4 _) w7 [g, xb + 1] (fun w' => Rd 46 g A 4 c b1234 24 (.slice none 0 0) 0 w' ∧ w'.heap[xb + 1]? = some (.cells #[.int .i64 0] 3 (0, 0))) (by simp; omega) (fun W h => ⟨h.1.set (by simp; omega) (fun _ a ha => by have := hAx a ha; omega) _ _, hp_oth h.2 (by omega)⟩) ?_).mono ?_
  · refine (kn_yes4 w2.heap.size g A 4 c b1234 24 (by omega) (xb + 1) (by omega) b1234_lt _ (hp_alloc _ HL7.out) (hp_alloc _ HY7.out) (HR7.out.alloc _) (by omega) (fun _ a ha => by have := hAx a ha; omega)).mono ?_
    rintro e w' ⟨rfl, hC, hR, hx⟩
    exact ⟨rfl, hC, hR, hx⟩
  rintro e w8 ⟨rfl, hC8, hR8, hy8⟩
  have HR8 := Lib.hid hR8
  have HY8 := Lib.hid hy8
  have HX8 := Lib.hid (hp_chg HX7.out hC8 (by simp; omega))
  have HL8 := Lib.hid (hp_chg HL7.out hC8 (by simp; omega))
  have HB8 := Lib.hid (HB7.out.trans (hC8.below (B := w.heap.size) HB7.out.size (by simp; omega)))
  have hs8 := hC8.size
  clear hC8 hR8 hy8 HX7 HY7 HL7 HB7 HR7
  go_wp2_with fail
  obtain ⟨zb, hzb⟩ : ∃ zb, zb = w8.heap.size := ⟨_, rfl⟩
  have hz9 := hp_new0 w8 (.cells #[.slice none 0 0, .slice none 0 0, .int .i64 0, .int .i64 0] 46)
  have hB9 : Below w8.heap.size w8 (w8.alloc (.cells #[.slice none 0 0, .slice none 0 0, .int .i64 0, .int .i64 0] 46)) := (Below.refl _ w8).alloc (Nat.le_refl _) _
  have hs9 : (w8.alloc (.cells #[.slice none 0 0, .slice none 0 0, .int .i64 0, .int .i64 0] 46)).heap.size = w8.heap.size + 1 := World.size_alloc _ _
  generalize w8.alloc (.cells #[.slice none 0 0, .slice none 0 0, .int .i64 0, .int .i64 0] 46) = w9 at *
  rw [← hzb] at hz9 hs9 ⊢
  have hzx : xb + 1 < zb := by omega
  have hRz : Rd 46 zb none 0 0 b1234 0 (.slice none 0 0) 0 w9 := ⟨hz9, fun h => absurd h (by omega), fun h => absurd h (by omega)⟩
  have HRz := Lib.hid hRz
  have HR9 := Lib.hid (HR8.out.low hB9)
  have HX9 := Lib.hid (hp_low HX8.out hB9)
  have HY9 := Lib.hid (hp_low HY8.out hB9)
  have HL9 := Lib.hid (hp_low HL8.out hB9)
  have HB9 := Lib.hid (low_trans HB8.out hB9)
  clear hB9 hz9 hRz hzb HR8 HX8 HY8 HL8 HB8
  refine (guard_no_b _ _ (ent_kn5 _) w9 (kn_no5 zb none 0 0 b1234 0 (by omega) (by omega) (by omega) _ (HRz.out.alloc _))).mono ?_
  rintro e w10 ⟨rfl, hB10⟩
  have HRz2 := Lib.hid (HRz.out.low hB10)
  have HRa := Lib.hid (HR9.out.low hB10)
  have HXa := Lib.hid (hp_low HX9.out hB10)
  have HYa := Lib.hid (hp_low HY9.out hB10)
  have HLa := Lib.hid (hp_low HL9.out hB10)
  have HBa := Lib.hid (low_trans HB9.out hB10)
  have hs10 := hB10.size
  clear hB10 HRz HR9 HX9 HY9 HL9 HB9
  go_wp2_with fail
  refine (putL zb _ 0 [] 0 none (by simp) 5 (by unfold In64; omega) 3 (by omega) _ (Wr.of_new HRz2.out)).mono ?_
  rintro e w11 ⟨rfl, hC11, ob, hW11, hN11⟩
  rw [five_puts] at hW11
  have HW := Lib.hid hW11
  have HRb := Lib.hid (HRa.out.chg hC11 (by simp [Near]; omega) (fun _ a ha => by have := hAx a ha; simp [Near]; omega))
  have HXb := Lib.hid (hp_chg HXa.out hC11 (by simp [Near]; omega))
  have HYb := Lib.hid (hp_chg HYa.out hC11 (by simp [Near]; omega))
  have HLb := Lib.hid (hp_chg HLa.out hC11 (by simp [Near]; omega))
  have HBb := Lib.hid (HBa.out.trans (hC11.below (B := w.heap.size) HBa.out.size (by simp [Near]; omega)))
  have hs11 := hC11.size
  clear hC11 hW11 hN11 HRa HXa HYa HLa HBa
  have kx := hp_cell (j := 0) HXb.out rfl
  have ky := hp_cell (j := 0) HYb.out rfl
  have kl := hp_cell (j := 0) HLb.out rfl
  go_wp2_with fail
  refine (leftL g A 4 c b1234 24 _ 0 (by omega) (by omega) _ HRb.out).mono ?_
  rintro e w12 ⟨rfl, q, rfl⟩
  have hCq : Chg [] w11 (w11.drewN q) := (Chg.refl [] w11).drewN q
  have HW2 := Lib.hid (HW.out.chg hCq (by simp) (fun _ _ => by simp))
  have HB12 := Lib.hid (HBb.out.trans (hCq.below (B := w.heap.size) HBb.out.size (by simp)))
  generalize w11.drewN q = w12 at *
  clear hCq kx ky kl
  go_wp2_with fail
  refine (outL zb _ 0 [5] 5 ob (by simp) _ HW2.out).mono ?_
  rintro e w13 ⟨A8, cap8, rfl, hN8, hB8⟩
  have hcv : (convert 22 9 (.slice A8 [5].length cap8)).run Try.prog w13 = .ok (.string ⟨#[5]⟩) w13 := by
    have h1 := run_str (cap := cap8) hN8.byt
    rw [strB_congr (d' := fun _ => 5) (fun i hi => by simp at hi; obtain rfl : i = 0 := by omega
                                                      rfl)] at h1
    rw [← five_str]
    exact h1
  simp only [List.length_cons, List.length_nil, Nat.zero_add] at hcv
  have HB13 := Lib.hid (low_trans HB12.out hB8)
  clear hN8 hB8
  go_wp2_with fail
  refine (guard_nil _).mono ?_
  rintro e w14 ⟨rfl, hB14⟩
  have HB14 := Lib.hid (low_trans HB13.out hB14)
  clear hB14 hcv
  go_wp2_with fail
  refine (guard_no_b _ _ (ent_kn6 _) w14 (kn_panic _)).mono ?_
  rintro e w15 ⟨rfl, hB15⟩
  have HB15 := Lib.hid (low_trans HB14.out hB15)
  clear hB15
  go_wp2
  go_ret
  exact ⟨rfl, HB15.out⟩
end Go.Proofs.Ythcijcdeecmnmaa
