/- RasterPixels: the walk. -/
import Derived.Test.YtlefaobmpbbcaaaSetR
import Derived.Test.YtlefaobmpbbcaaaAw8
import Derived.Deep.DrawnRows
namespace Go.Proofs.Ytlefaobmpbbcaaa
set_option linter.unusedVariables false
open Go.ChangeShapes Go.WideShapes Go.ChangeAt Go.RowKit

def getP (a b : Int) (n : Nat) (c : Nat → Nat) (x y : Int) : P4 := if inB a b n x y = true then p4 c (y * a + x).toNat else (0, 0, 0, 0)
theorem getV_P (a b : Int) (n : Nat) (c : Nat → Nat) (x y : Int) : ∃ g : P4, getV a b n c x y = .agg #[.int .u16 (g.1 : Nat), .int .u16 (g.2.1 : Nat), .int .u16 (g.2.2.1 : Nat), .int .u16 (g.2.2.2 : Nat)] := by
  refine ⟨getP a b n c x y, ?_⟩
  unfold getV getP
  split <;> rfl
/-- A row of one's own, its block another than those below B. -/
theorem sameB_self {a b : Int} {n : Nat} (c : Nat → Nat) (h : mayB a b n = true) : sameB a b n c a b n c = true := by
  simp [sameB, h, allEq_t (c := c) (d := c) (fun _ _ => rfl)]
theorem sameB_comm (a b : Int) (n : Nat) (c : Nat → Nat) (a2 b2 : Int) (n2 : Nat) (d : Nat → Nat) (h : n = n2) : sameB a b n c a2 b2 n2 d = sameB a2 b2 n2 d a b n c := by
  subst h
  rw [Bool.eq_iff_iff]
  simp [sameB, allEq_iff]
  constructor <;> rintro ⟨h1, h2, h3, h4, h5⟩ <;> exact ⟨h2, h1, h3.symm, h4.symm, fun j hj => (h5 j hj).symm⟩

theorem Own.lt {B : Nat} {w : World} {A : Option Addr} {n : Nat} {c : Nat → Nat} (h : Own B w A n c) : ∀ k, 0 < n → A = some ⟨k, 0, none⟩ → B ≤ k ∧ k < w.heap.size := fun k hn he => by
  obtain ⟨g, cur, h1, hB, hg, _⟩ := h hn
  rw [he] at h1
  injection h1 with h1
  injection h1 with h1
  subst h1
  exact ⟨hB, (Array.getElem?_eq_some_iff.1 hg).1⟩
theorem below_keep {w w' : World} {p : Addr} {v : Value} (hb : Below w.heap.size w w') (h : w.cell? p = some v) : w'.cell? p = some v := (hb.cell (lt_of_cell h)).trans h
theorem Own.frame {B : Nat} {w w' : World} {A A' : Option Addr} {n m : Nat} {c : Nat → Nat} (h : Own B w A n c) (hfr : ∀ g o, w.heap[g]? = some o → (∀ k, 0 < m → A' = some ⟨k, 0, none⟩ → k ≠ g) → w'.heap[g]? = some o)
    (hne : ∀ g k, A = some ⟨g, 0, none⟩ → 0 < n → 0 < m → A' = some ⟨k, 0, none⟩ → k ≠ g) : Own B w' A n c := fun hn => by
  obtain ⟨g, cur, rfl, hB, hg, hs, hcl⟩ := h hn
  exact ⟨g, cur, rfl, hB, hfr g _ hg (fun k hm he => hne g k rfl hn hm he), hs, hcl⟩

set_option maxRecDepth 100000 in
set_option maxHeartbeats 4000000 in
theorem pixels_walk (a b : Int) (A : Option Addr) (n cap : Nat) (c : Nat → Nat) (hc : ∀ i, c i < 65536) (x y : Int) (p : P4) (hp : w4 p) (ha : In64 a) (hb : In64 b) (hn : n ≤ cap) (hmax : cap ≤ maxLen) (hz : A = none → cap = 0) (w : World) (hP : Pix w A n c) :
    Calls Try.prog 6 #[.agg #[.int .i64 a, .int .i64 b, .slice A n cap], .agg #[.int .i64 x, .int .i64 y], .agg #[.int .u16 (p.1 : Nat), .int .u16 (p.2.1 : Nat), .int .u16 (p.2.2.1 : Nat), .int .u16 (p.2.2.2 : Nat)]] w fun e w' => e = .returned (.bool true) ∧ Below w.heap.size w w' := by
  obtain ⟨g, hg⟩ := getV_P a b n c x y
  have HG := Lib.hid hg
  clear hg
  have HW := Lib.hid (Below.refl w.heap.size w)
  have bP := hp_new0 (w) (.cells #[.int .i64 a, .int .i64 b, .slice A n cap] 25)
  replace HW := Lib.hid (HW.out.alloc HW.out.size (.cells #[.int .i64 a, .int .i64 b, .slice A n cap] 25))
  replace bP := hp_alloc (.cells #[.int .i64 x, .int .i64 y] 45) bP
  have bN := hp_new0 ((w).alloc (.cells #[.int .i64 a, .int .i64 b, .slice A n cap] 25)) (.cells #[.int .i64 x, .int .i64 y] 45)
  simp only [World.size_alloc] at bN
  replace HW := Lib.hid (HW.out.alloc HW.out.size (.cells #[.int .i64 x, .int .i64 y] 45))
  replace bP := hp_alloc (.cells #[.int .u16 (p.1 : Nat), .int .u16 (p.2.1 : Nat), .int .u16 (p.2.2.1 : Nat), .int .u16 (p.2.2.2 : Nat)] 41) bP
  replace bN := hp_alloc (.cells #[.int .u16 (p.1 : Nat), .int .u16 (p.2.1 : Nat), .int .u16 (p.2.2.1 : Nat), .int .u16 (p.2.2.2 : Nat)] 41) bN
  have bC := hp_new0 (((w).alloc (.cells #[.int .i64 a, .int .i64 b, .slice A n cap] 25)).alloc (.cells #[.int .i64 x, .int .i64 y] 45)) (.cells #[.int .u16 (p.1 : Nat), .int .u16 (p.2.1 : Nat), .int .u16 (p.2.2.1 : Nat), .int .u16 (p.2.2.2 : Nat)] 41)
  simp only [World.size_alloc] at bC
  replace HW := Lib.hid (HW.out.alloc HW.out.size (.cells #[.int .u16 (p.1 : Nat), .int .u16 (p.2.1 : Nat), .int .u16 (p.2.2.1 : Nat), .int .u16 (p.2.2.2 : Nat)] 41))
  go_enter Try.func6, Try.ntmps6
  go_wp2_with fail
  refine (awake8 _).mono ?_
  rintro e w1 ⟨rfl, hB⟩
  replace bP := hp_below bP hB (Array.getElem?_eq_some_iff.1 bP).1
  replace bN := hp_below bN hB (Array.getElem?_eq_some_iff.1 bN).1
  replace bC := hp_below bC hB (Array.getElem?_eq_some_iff.1 bC).1
  replace HW := Lib.hid (HW.out.trans (hB.mono HW.out.size))
  clear hB
  have kP_0 := hp_cell (j := 0) bP rfl
  have kP_1 := hp_cell (j := 1) bP rfl
  have kP_2 := hp_cell (j := 2) bP rfl
  have kN_0 := hp_cell (j := 0) bN rfl
  have kN_1 := hp_cell (j := 1) bN rfl
  have kC_0 := hp_cell (j := 0) bC rfl
  have kC_1 := hp_cell (j := 1) bC rfl
  have kC_2 := hp_cell (j := 2) bC rfl
  have kC_3 := hp_cell (j := 3) bC rfl
  by_cases h7 : 70000 < n
  · have t7 : decide ((70000 : Int) < (n : Int)) = true := by simp; omega
    go_wp2
    go_ret
    exact ⟨rfl, HW.out⟩
  have t7 : decide ((70000 : Int) < (n : Int)) = false := by simp; omega
  have z1 : w.heap.size + 1 + 1 < w1.heap.size := (Array.getElem?_eq_some_iff.1 bC).1
  go_wp2_with fail
  refine (copy_ref a b A n cap c hn hmax hz (by omega) _ (hP.below HW.out)).mono ?_
  rintro e w2 ⟨⟨A1, cap1, rfl, hO1⟩, hB⟩
  have s2 := hB.size
  clear kP_0 kP_1 kP_2 kN_0 kN_1 kC_0 kC_1 kC_2 kC_3
  replace bP := hp_below bP hB (Array.getElem?_eq_some_iff.1 bP).1
  replace bN := hp_below bN hB (Array.getElem?_eq_some_iff.1 bN).1
  replace bC := hp_below bC hB (Array.getElem?_eq_some_iff.1 bC).1
  replace HW := Lib.hid (HW.out.trans (hB.mono HW.out.size))
  clear hB
  clear t7
  obtain ⟨hn1, hm1, hz1, hO1⟩ := hO1
  have hk1 := hO1.lt
  replace bP := hp_alloc (.cells #[.int .i64 a, .int .i64 b, .slice A1 n cap1] 25) bP
  replace bN := hp_alloc (.cells #[.int .i64 a, .int .i64 b, .slice A1 n cap1] 25) bN
  replace bC := hp_alloc (.cells #[.int .i64 a, .int .i64 b, .slice A1 n cap1] 25) bC
  have bQ := hp_new0 (w2) (.cells #[.int .i64 a, .int .i64 b, .slice A1 n cap1] 25)
  replace hO1 := hO1.below ((Below.refl _ (w2)).alloc (Nat.le_refl _) (.cells #[.int .i64 a, .int .i64 b, .slice A1 n cap1] 25))
  replace HW := Lib.hid (HW.out.alloc HW.out.size (.cells #[.int .i64 a, .int .i64 b, .slice A1 n cap1] 25))
  have kP_0 := hp_cell (j := 0) bP rfl
  have kP_1 := hp_cell (j := 1) bP rfl
  have kP_2 := hp_cell (j := 2) bP rfl
  have kN_0 := hp_cell (j := 0) bN rfl
  have kN_1 := hp_cell (j := 1) bN rfl
  have kC_0 := hp_cell (j := 0) bC rfl
  have kC_1 := hp_cell (j := 1) bC rfl
  have kC_2 := hp_cell (j := 2) bC rfl
  have kC_3 := hp_cell (j := 3) bC rfl
  have kQ_0 := hp_cell (j := 0) bQ rfl
  have kQ_1 := hp_cell (j := 1) bQ rfl
  have kQ_2 := hp_cell (j := 2) bQ rfl
  go_wp2_with fail
  refine (get_prog a b A n cap c x y ha hb hn hmax _ (hP.below HW.out)).mono ?_
  rintro e w3 ⟨hB, rfl⟩
  rw [HG.out]
  have s3 := hB.size
  rw [World.size_alloc] at s3
  clear kP_0 kP_1 kP_2 kN_0 kN_1 kC_0 kC_1 kC_2 kC_3 kQ_0 kQ_1 kQ_2
  replace bP := hp_below bP hB (Array.getElem?_eq_some_iff.1 bP).1
  replace bN := hp_below bN hB (Array.getElem?_eq_some_iff.1 bN).1
  replace bC := hp_below bC hB (Array.getElem?_eq_some_iff.1 bC).1
  replace bQ := hp_below bQ hB (Array.getElem?_eq_some_iff.1 bQ).1
  replace hO1 := hO1.below hB
  replace HW := Lib.hid (HW.out.trans (hB.mono HW.out.size))
  clear hB
  replace bP := hp_alloc (.cells #[.int .u16 (g.1 : Nat), .int .u16 (g.2.1 : Nat), .int .u16 (g.2.2.1 : Nat), .int .u16 (g.2.2.2 : Nat)] 41) bP
  replace bN := hp_alloc (.cells #[.int .u16 (g.1 : Nat), .int .u16 (g.2.1 : Nat), .int .u16 (g.2.2.1 : Nat), .int .u16 (g.2.2.2 : Nat)] 41) bN
  replace bC := hp_alloc (.cells #[.int .u16 (g.1 : Nat), .int .u16 (g.2.1 : Nat), .int .u16 (g.2.2.1 : Nat), .int .u16 (g.2.2.2 : Nat)] 41) bC
  replace bQ := hp_alloc (.cells #[.int .u16 (g.1 : Nat), .int .u16 (g.2.1 : Nat), .int .u16 (g.2.2.1 : Nat), .int .u16 (g.2.2.2 : Nat)] 41) bQ
  have ba := hp_new0 (w3) (.cells #[.int .u16 (g.1 : Nat), .int .u16 (g.2.1 : Nat), .int .u16 (g.2.2.1 : Nat), .int .u16 (g.2.2.2 : Nat)] 41)
  replace hO1 := hO1.below ((Below.refl _ (w3)).alloc (Nat.le_refl _) (.cells #[.int .u16 (g.1 : Nat), .int .u16 (g.2.1 : Nat), .int .u16 (g.2.2.1 : Nat), .int .u16 (g.2.2.2 : Nat)] 41))
  replace HW := Lib.hid (HW.out.alloc HW.out.size (.cells #[.int .u16 (g.1 : Nat), .int .u16 (g.2.1 : Nat), .int .u16 (g.2.2.1 : Nat), .int .u16 (g.2.2.2 : Nat)] 41))
  have kP_0 := hp_cell (j := 0) bP rfl
  have kP_1 := hp_cell (j := 1) bP rfl
  have kP_2 := hp_cell (j := 2) bP rfl
  have kN_0 := hp_cell (j := 0) bN rfl
  have kN_1 := hp_cell (j := 1) bN rfl
  have kC_0 := hp_cell (j := 0) bC rfl
  have kC_1 := hp_cell (j := 1) bC rfl
  have kC_2 := hp_cell (j := 2) bC rfl
  have kC_3 := hp_cell (j := 3) bC rfl
  have kQ_0 := hp_cell (j := 0) bQ rfl
  have kQ_1 := hp_cell (j := 1) bQ rfl
  have kQ_2 := hp_cell (j := 2) bQ rfl
  have ka_0 := hp_cell (j := 0) ba rfl
  have ka_1 := hp_cell (j := 1) ba rfl
  have ka_2 := hp_cell (j := 2) ba rfl
  have ka_3 := hp_cell (j := 3) ba rfl
  go_wp2_with fail
  refine (get_ref a b A1 n cap1 c x y ha hb hn1 hm1 _ hO1.pix).mono ?_
  rintro e w4 ⟨hB, rfl⟩
  rw [HG.out]
  have s4 := hB.size
  rw [World.size_alloc] at s4
  clear kP_0 kP_1 kP_2 kN_0 kN_1 kC_0 kC_1 kC_2 kC_3 kQ_0 kQ_1 kQ_2 ka_0 ka_1 ka_2 ka_3
  replace bP := hp_below bP hB (Array.getElem?_eq_some_iff.1 bP).1
  replace bN := hp_below bN hB (Array.getElem?_eq_some_iff.1 bN).1
  replace bC := hp_below bC hB (Array.getElem?_eq_some_iff.1 bC).1
  replace bQ := hp_below bQ hB (Array.getElem?_eq_some_iff.1 bQ).1
  replace ba := hp_below ba hB (Array.getElem?_eq_some_iff.1 ba).1
  replace hO1 := hO1.below hB
  replace HW := Lib.hid (HW.out.trans (hB.mono HW.out.size))
  clear hB
  replace bP := hp_alloc (.cells #[.int .u16 (g.1 : Nat), .int .u16 (g.2.1 : Nat), .int .u16 (g.2.2.1 : Nat), .int .u16 (g.2.2.2 : Nat)] 41) bP
  replace bN := hp_alloc (.cells #[.int .u16 (g.1 : Nat), .int .u16 (g.2.1 : Nat), .int .u16 (g.2.2.1 : Nat), .int .u16 (g.2.2.2 : Nat)] 41) bN
  replace bC := hp_alloc (.cells #[.int .u16 (g.1 : Nat), .int .u16 (g.2.1 : Nat), .int .u16 (g.2.2.1 : Nat), .int .u16 (g.2.2.2 : Nat)] 41) bC
  replace bQ := hp_alloc (.cells #[.int .u16 (g.1 : Nat), .int .u16 (g.2.1 : Nat), .int .u16 (g.2.2.1 : Nat), .int .u16 (g.2.2.2 : Nat)] 41) bQ
  replace ba := hp_alloc (.cells #[.int .u16 (g.1 : Nat), .int .u16 (g.2.1 : Nat), .int .u16 (g.2.2.1 : Nat), .int .u16 (g.2.2.2 : Nat)] 41) ba
  have bb := hp_new0 (w4) (.cells #[.int .u16 (g.1 : Nat), .int .u16 (g.2.1 : Nat), .int .u16 (g.2.2.1 : Nat), .int .u16 (g.2.2.2 : Nat)] 41)
  replace hO1 := hO1.below ((Below.refl _ (w4)).alloc (Nat.le_refl _) (.cells #[.int .u16 (g.1 : Nat), .int .u16 (g.2.1 : Nat), .int .u16 (g.2.2.1 : Nat), .int .u16 (g.2.2.2 : Nat)] 41))
  replace HW := Lib.hid (HW.out.alloc HW.out.size (.cells #[.int .u16 (g.1 : Nat), .int .u16 (g.2.1 : Nat), .int .u16 (g.2.2.1 : Nat), .int .u16 (g.2.2.2 : Nat)] 41))
  have kP_0 := hp_cell (j := 0) bP rfl
  have kP_1 := hp_cell (j := 1) bP rfl
  have kP_2 := hp_cell (j := 2) bP rfl
  have kN_0 := hp_cell (j := 0) bN rfl
  have kN_1 := hp_cell (j := 1) bN rfl
  have kC_0 := hp_cell (j := 0) bC rfl
  have kC_1 := hp_cell (j := 1) bC rfl
  have kC_2 := hp_cell (j := 2) bC rfl
  have kC_3 := hp_cell (j := 3) bC rfl
  have kQ_0 := hp_cell (j := 0) bQ rfl
  have kQ_1 := hp_cell (j := 1) bQ rfl
  have kQ_2 := hp_cell (j := 2) bQ rfl
  have ka_0 := hp_cell (j := 0) ba rfl
  have ka_1 := hp_cell (j := 1) ba rfl
  have ka_2 := hp_cell (j := 2) ba rfl
  have ka_3 := hp_cell (j := 3) ba rfl
  have kb_0 := hp_cell (j := 0) bb rfl
  have kb_1 := hp_cell (j := 1) bb rfl
  have kb_2 := hp_cell (j := 2) bb rfl
  have kb_3 := hp_cell (j := 3) bb rfl
  go_wp2_with fail
  refine (copy_prog a b A n cap c hn hmax hz (by omega) _ (hP.below HW.out)).mono ?_
  rintro e w5 ⟨⟨A2, cap2, rfl, hO2⟩, hB⟩
  have s5 := hB.size
  rw [World.size_alloc] at s5
  clear kP_0 kP_1 kP_2 kN_0 kN_1 kC_0 kC_1 kC_2 kC_3 kQ_0 kQ_1 kQ_2 ka_0 ka_1 ka_2 ka_3 kb_0 kb_1 kb_2 kb_3
  replace bP := hp_below bP hB (Array.getElem?_eq_some_iff.1 bP).1
  replace bN := hp_below bN hB (Array.getElem?_eq_some_iff.1 bN).1
  replace bC := hp_below bC hB (Array.getElem?_eq_some_iff.1 bC).1
  replace bQ := hp_below bQ hB (Array.getElem?_eq_some_iff.1 bQ).1
  replace ba := hp_below ba hB (Array.getElem?_eq_some_iff.1 ba).1
  replace bb := hp_below bb hB (Array.getElem?_eq_some_iff.1 bb).1
  replace hO1 := hO1.below hB
  replace HW := Lib.hid (HW.out.trans (hB.mono HW.out.size))
  clear hB
  obtain ⟨hn2, hm2, hz2, hO2⟩ := hO2
  rw [World.size_alloc] at hO2
  have hk2 := hO2.lt
  replace bP := hp_alloc (.cells #[.int .i64 a, .int .i64 b, .slice A2 n cap2] 25) bP
  replace bN := hp_alloc (.cells #[.int .i64 a, .int .i64 b, .slice A2 n cap2] 25) bN
  replace bC := hp_alloc (.cells #[.int .i64 a, .int .i64 b, .slice A2 n cap2] 25) bC
  replace bQ := hp_alloc (.cells #[.int .i64 a, .int .i64 b, .slice A2 n cap2] 25) bQ
  replace ba := hp_alloc (.cells #[.int .i64 a, .int .i64 b, .slice A2 n cap2] 25) ba
  replace bb := hp_alloc (.cells #[.int .i64 a, .int .i64 b, .slice A2 n cap2] 25) bb
  have bD := hp_new0 (w5) (.cells #[.int .i64 a, .int .i64 b, .slice A2 n cap2] 25)
  replace hO1 := hO1.below ((Below.refl _ (w5)).alloc (Nat.le_refl _) (.cells #[.int .i64 a, .int .i64 b, .slice A2 n cap2] 25))
  replace hO2 := hO2.below ((Below.refl _ (w5)).alloc (Nat.le_refl _) (.cells #[.int .i64 a, .int .i64 b, .slice A2 n cap2] 25))
  replace HW := Lib.hid (HW.out.alloc HW.out.size (.cells #[.int .i64 a, .int .i64 b, .slice A2 n cap2] 25))
  have kP_0 := hp_cell (j := 0) bP rfl
  have kP_1 := hp_cell (j := 1) bP rfl
  have kP_2 := hp_cell (j := 2) bP rfl
  have kN_0 := hp_cell (j := 0) bN rfl
  have kN_1 := hp_cell (j := 1) bN rfl
  have kC_0 := hp_cell (j := 0) bC rfl
  have kC_1 := hp_cell (j := 1) bC rfl
  have kC_2 := hp_cell (j := 2) bC rfl
  have kC_3 := hp_cell (j := 3) bC rfl
  have kQ_0 := hp_cell (j := 0) bQ rfl
  have kQ_1 := hp_cell (j := 1) bQ rfl
  have kQ_2 := hp_cell (j := 2) bQ rfl
  have ka_0 := hp_cell (j := 0) ba rfl
  have ka_1 := hp_cell (j := 1) ba rfl
  have ka_2 := hp_cell (j := 2) ba rfl
  have ka_3 := hp_cell (j := 3) ba rfl
  have kb_0 := hp_cell (j := 0) bb rfl
  have kb_1 := hp_cell (j := 1) bb rfl
  have kb_2 := hp_cell (j := 2) bb rfl
  have kb_3 := hp_cell (j := 3) bb rfl
  have kD_0 := hp_cell (j := 0) bD rfl
  have kD_1 := hp_cell (j := 1) bD rfl
  have kD_2 := hp_cell (j := 2) bD rfl
  go_wp2_with fail
  refine (set_any a b A2 n cap2 c x y p ha hb hn2 hm2 _ hO2).mono ?_
  rintro e w6 ⟨rfl, hbl, hfr, hO⟩
  clear kP_0 kP_1 kP_2 kN_0 kN_1 kC_0 kC_1 kC_2 kC_3 kQ_0 kQ_1 kQ_2 ka_0 ka_1 ka_2 ka_3 kb_0 kb_1 kb_2 kb_3 kD_0 kD_1 kD_2
  replace bP := hfr _ _ bP (fun k h0 he => by have := hk2 k h0 he; omega)
  replace bN := hfr _ _ bN (fun k h0 he => by have := hk2 k h0 he; omega)
  replace bC := hfr _ _ bC (fun k h0 he => by have := hk2 k h0 he; omega)
  replace bQ := hfr _ _ bQ (fun k h0 he => by have := hk2 k h0 he; omega)
  replace ba := hfr _ _ ba (fun k h0 he => by have := hk2 k h0 he; omega)
  replace bb := hfr _ _ bb (fun k h0 he => by have := hk2 k h0 he; omega)
  replace bD := hfr _ _ bD (fun k h0 he => by have := hk2 k h0 he; omega)
  replace HW := Lib.hid (HW.out.trans ((hbl (by simp only [World.size_alloc]; omega)).mono (by omega)))
  have zw6 := (hbl (by simp only [World.size_alloc]; omega)).size
  rw [World.size_alloc] at zw6
  replace hO1 := hO1.frame hfr (fun g1 k1 e1 h1 h2 e2 => by have := hk1 _ h1 e1; have := hk2 _ h1 e2; omega)
  clear hO2 hbl hfr
  have hO2 := hO
  clear hO
  have kP_0 := hp_cell (j := 0) bP rfl
  have kP_1 := hp_cell (j := 1) bP rfl
  have kP_2 := hp_cell (j := 2) bP rfl
  have kN_0 := hp_cell (j := 0) bN rfl
  have kN_1 := hp_cell (j := 1) bN rfl
  have kC_0 := hp_cell (j := 0) bC rfl
  have kC_1 := hp_cell (j := 1) bC rfl
  have kC_2 := hp_cell (j := 2) bC rfl
  have kC_3 := hp_cell (j := 3) bC rfl
  have kQ_0 := hp_cell (j := 0) bQ rfl
  have kQ_1 := hp_cell (j := 1) bQ rfl
  have kQ_2 := hp_cell (j := 2) bQ rfl
  have ka_0 := hp_cell (j := 0) ba rfl
  have ka_1 := hp_cell (j := 1) ba rfl
  have ka_2 := hp_cell (j := 2) ba rfl
  have ka_3 := hp_cell (j := 3) ba rfl
  have kb_0 := hp_cell (j := 0) bb rfl
  have kb_1 := hp_cell (j := 1) bb rfl
  have kb_2 := hp_cell (j := 2) bb rfl
  have kb_3 := hp_cell (j := 3) bb rfl
  have kD_0 := hp_cell (j := 0) bD rfl
  have kD_1 := hp_cell (j := 1) bD rfl
  have kD_2 := hp_cell (j := 2) bD rfl
  go_wp2_with fail
  refine (setr_any a b A1 n cap1 c x y p ha hb hn1 hm1 _ hO1).mono ?_
  rintro e w7 ⟨rfl, hbl, hfr, hO⟩
  clear kP_0 kP_1 kP_2 kN_0 kN_1 kC_0 kC_1 kC_2 kC_3 kQ_0 kQ_1 kQ_2 ka_0 ka_1 ka_2 ka_3 kb_0 kb_1 kb_2 kb_3 kD_0 kD_1 kD_2
  replace bP := hfr _ _ bP (fun k h0 he => by have := hk1 k h0 he; omega)
  replace bN := hfr _ _ bN (fun k h0 he => by have := hk1 k h0 he; omega)
  replace bC := hfr _ _ bC (fun k h0 he => by have := hk1 k h0 he; omega)
  replace bQ := hfr _ _ bQ (fun k h0 he => by have := hk1 k h0 he; omega)
  replace ba := hfr _ _ ba (fun k h0 he => by have := hk1 k h0 he; omega)
  replace bb := hfr _ _ bb (fun k h0 he => by have := hk1 k h0 he; omega)
  replace bD := hfr _ _ bD (fun k h0 he => by have := hk1 k h0 he; omega)
  replace HW := Lib.hid (HW.out.trans ((hbl (by omega)).mono (by omega)))
  have zw7 := (hbl (by omega)).size
  replace hO2 := hO2.frame hfr (fun g1 k1 e1 h1 h2 e2 => by have := hk1 _ h1 e2; have := hk2 _ h1 e1; omega)
  clear hO1 hbl hfr
  have hO1 := hO
  clear hO
  have kP_0 := hp_cell (j := 0) bP rfl
  have kP_1 := hp_cell (j := 1) bP rfl
  have kP_2 := hp_cell (j := 2) bP rfl
  have kN_0 := hp_cell (j := 0) bN rfl
  have kN_1 := hp_cell (j := 1) bN rfl
  have kC_0 := hp_cell (j := 0) bC rfl
  have kC_1 := hp_cell (j := 1) bC rfl
  have kC_2 := hp_cell (j := 2) bC rfl
  have kC_3 := hp_cell (j := 3) bC rfl
  have kQ_0 := hp_cell (j := 0) bQ rfl
  have kQ_1 := hp_cell (j := 1) bQ rfl
  have kQ_2 := hp_cell (j := 2) bQ rfl
  have ka_0 := hp_cell (j := 0) ba rfl
  have ka_1 := hp_cell (j := 1) ba rfl
  have ka_2 := hp_cell (j := 2) ba rfl
  have ka_3 := hp_cell (j := 3) ba rfl
  have kb_0 := hp_cell (j := 0) bb rfl
  have kb_1 := hp_cell (j := 1) bb rfl
  have kb_2 := hp_cell (j := 2) bb rfl
  have kb_3 := hp_cell (j := 3) bb rfl
  have kD_0 := hp_cell (j := 0) bD rfl
  have kD_1 := hp_cell (j := 1) bD rfl
  have kD_2 := hp_cell (j := 2) bD rfl
  clear kP_0 kP_1 kP_2 kN_0 kN_1 kC_0 kC_1 kC_2 kC_3 kQ_0 kQ_1 kQ_2 ka_0 ka_1 ka_2 ka_3 kb_0 kb_1 kb_2 kb_3 kD_0 kD_1 kD_2
  have kP_0 := hp_cell (j := 0) bP rfl
  have kP_1 := hp_cell (j := 1) bP rfl
  have kP_2 := hp_cell (j := 2) bP rfl
  have ka_0 := hp_cell (j := 0) ba rfl
  have ka_1 := hp_cell (j := 1) ba rfl
  have ka_2 := hp_cell (j := 2) ba rfl
  have ka_3 := hp_cell (j := 3) ba rfl
  have kb_0 := hp_cell (j := 0) bb rfl
  have kb_1 := hp_cell (j := 1) bb rfl
  have kb_2 := hp_cell (j := 2) bb rfl
  have kb_3 := hp_cell (j := 3) bb rfl
  have hE := fun W => run_eqP g g W
  rw [show decide (g = g) = true from by simp] at hE
  have M1 : ∃ m, mayB a b n = m := ⟨_, rfl⟩
  obtain ⟨m, hm⟩ := M1
  have HM := Lib.hid hm
  clear hm
  generalize hi : inB a b n x y = i at *
  have HI := Lib.hid hi
  clear hi
  have HO1 := Lib.hid hO1
  have HO2 := Lib.hid hO2
  have HBP := Lib.hid bP
  have HBQ := Lib.hid bQ
  have HBD := Lib.hid bD
  clear hO1 hO2 bP bN bC bQ ba bb bD hk1 hk2
  go_wp2_with fail
  go_region_held3 (fun w' => w'.cell? ⟨w.heap.size, 0, none⟩ = some (.int .i64 a) ∧ w'.cell? ⟨w.heap.size, 1, none⟩ = some (.int .i64 b) ∧ w'.cell? ⟨w.heap.size, 2, none⟩ = some (.slice A n cap) ∧ w'.cell? ⟨w3.heap.size, 0, none⟩ = some (.int .u16 (g.1 : Nat)) ∧ w'.cell? ⟨w3.heap.size, 1, none⟩ = some (.int .u16 (g.2.1 : Nat)) ∧ w'.cell? ⟨w3.heap.size, 2, none⟩ = some (.int .u16 (g.2.2.1 : Nat)) ∧ w'.cell? ⟨w3.heap.size, 3, none⟩ = some (.int .u16 (g.2.2.2 : Nat)) ∧ w'.cell? ⟨w4.heap.size, 0, none⟩ = some (.int .u16 (g.1 : Nat)) ∧ w'.cell? ⟨w4.heap.size, 1, none⟩ = some (.int .u16 (g.2.1 : Nat)) ∧ w'.cell? ⟨w4.heap.size, 2, none⟩ = some (.int .u16 (g.2.2.1 : Nat)) ∧ w'.cell? ⟨w4.heap.size, 3, none⟩ = some (.int .u16 (g.2.2.2 : Nat)))
    (first | go_keep | (go_split_ands; refine ⟨?_, ?_, ?_, ?_, ?_, ?_, ?_, ?_, ?_, ?_, ?_⟩ <;> (refine below_keep hB ?_; assumption)))
    (first | (go_at_call 13; refine (may_prog a b A n cap ha hb hn hmax _).mono ?_; rintro e w8 ⟨rfl, hB⟩; rw [HM.out]) | (go_at_call 22; refine (may_ref a b A n cap ha hb hn hmax _).mono ?_; rintro e w8 ⟨rfl, hB⟩; rw [HM.out]))
  all_goals
    have hB7 : Below w7.heap.size w7 w8 := (((Below.refl _ _).drew).trans (‹Below w7.drew.heap.size w7.drew _›)).trans (hB.mono (‹Below w7.drew.heap.size w7.drew _›).size)
    have bP := HBP.out
    have bQ := HBQ.out
    have bD := HBD.out
    have hO1 := HO1.out
    have hO2 := HO2.out
    clear kP_0 kP_1 kP_2 ka_0 ka_1 ka_2 ka_3 kb_0 kb_1 kb_2 kb_3 hE hB HBP HBQ HBD HO1 HO2
    replace bP := hp_below bP hB7 (Array.getElem?_eq_some_iff.1 bP).1
    replace bQ := hp_below bQ hB7 (Array.getElem?_eq_some_iff.1 bQ).1
    replace bD := hp_below bD hB7 (Array.getElem?_eq_some_iff.1 bD).1
    replace hO1 := hO1.below hB7
    replace hO2 := hO2.below hB7
    replace HW := Lib.hid (HW.out.trans (hB7.mono HW.out.size))
    clear hB7
    have kP_0 := hp_cell (j := 0) bP rfl
    have kP_1 := hp_cell (j := 1) bP rfl
    have kP_2 := hp_cell (j := 2) bP rfl
    have kQ_0 := hp_cell (j := 0) bQ rfl
    have kQ_1 := hp_cell (j := 1) bQ rfl
    have kQ_2 := hp_cell (j := 2) bQ rfl
    have kD_0 := hp_cell (j := 0) bD rfl
    have kD_1 := hp_cell (j := 1) bD rfl
    have kD_2 := hp_cell (j := 2) bD rfl
    go_wp2_with fail
    refine (may_ref a b A n cap ha hb hn hmax _).mono ?_
    rintro e w9 ⟨rfl, hB⟩
    rw [HM.out]
    clear kP_0 kP_1 kP_2 kQ_0 kQ_1 kQ_2 kD_0 kD_1 kD_2
    replace bP := hp_below bP hB (Array.getElem?_eq_some_iff.1 bP).1
    replace bQ := hp_below bQ hB (Array.getElem?_eq_some_iff.1 bQ).1
    replace bD := hp_below bD hB (Array.getElem?_eq_some_iff.1 bD).1
    replace hO1 := hO1.below hB
    replace hO2 := hO2.below hB
    replace HW := Lib.hid (HW.out.trans (hB.mono HW.out.size))
    clear hB
    have kP_0 := hp_cell (j := 0) bP rfl
    have kP_1 := hp_cell (j := 1) bP rfl
    have kP_2 := hp_cell (j := 2) bP rfl
    have kQ_0 := hp_cell (j := 0) bQ rfl
    have kQ_1 := hp_cell (j := 1) bQ rfl
    have kQ_2 := hp_cell (j := 2) bQ rfl
    have kD_0 := hp_cell (j := 0) bD rfl
    have kD_1 := hp_cell (j := 1) bD rfl
    have kD_2 := hp_cell (j := 2) bD rfl
    cases m with
    | false =>
      go_wp2
      go_ret
      exact ⟨rfl, HW.out⟩
    | true =>
      obtain ⟨S, hS⟩ : ∃ S, sameB a b n (setD a b n c x y p) a b n c = S := ⟨_, rfl⟩
      have H2 := Lib.hid (sameB_self (setD a b n c x y p) HM.out)
      have H3 := Lib.hid ((sameB_comm a b n c a b n (setD a b n c x y p) rfl).trans hS)
      have H4 := Lib.hid (sameB_self c HM.out)
      have H1 := Lib.hid hS
      clear hS
      have s9 : (S == S) = true := by simp
      go_wp2_with fail
      refine (same_prog a b A2 n cap2 (setD a b n c x y p) a b A n cap c ha hb ha hb hn2 hm2 hn hmax _ hO2.pix (hP.below HW.out)).mono ?_
      rintro e w10 ⟨rfl, hB⟩
      rw [H1.out]
      clear kP_0 kP_1 kP_2 kQ_0 kQ_1 kQ_2 kD_0 kD_1 kD_2
      replace bP := hp_below bP hB (Array.getElem?_eq_some_iff.1 bP).1
      replace bQ := hp_below bQ hB (Array.getElem?_eq_some_iff.1 bQ).1
      replace bD := hp_below bD hB (Array.getElem?_eq_some_iff.1 bD).1
      replace hO1 := hO1.below hB
      replace hO2 := hO2.below hB
      replace HW := Lib.hid (HW.out.trans (hB.mono HW.out.size))
      clear hB
      have kP_0 := hp_cell (j := 0) bP rfl
      have kP_1 := hp_cell (j := 1) bP rfl
      have kP_2 := hp_cell (j := 2) bP rfl
      have kQ_0 := hp_cell (j := 0) bQ rfl
      have kQ_1 := hp_cell (j := 1) bQ rfl
      have kQ_2 := hp_cell (j := 2) bQ rfl
      have kD_0 := hp_cell (j := 0) bD rfl
      have kD_1 := hp_cell (j := 1) bD rfl
      have kD_2 := hp_cell (j := 2) bD rfl
      go_wp2_with fail
      refine (same_ref a b A2 n cap2 (setD a b n c x y p) a b A1 n cap1 (setD a b n c x y p) ha hb ha hb hn2 hm2 hn1 hm1 _ hO2.pix hO1.pix).mono ?_
      rintro e w11 ⟨rfl, hB⟩
      rw [H2.out]
      clear kP_0 kP_1 kP_2 kQ_0 kQ_1 kQ_2 kD_0 kD_1 kD_2
      replace bP := hp_below bP hB (Array.getElem?_eq_some_iff.1 bP).1
      replace bQ := hp_below bQ hB (Array.getElem?_eq_some_iff.1 bQ).1
      replace bD := hp_below bD hB (Array.getElem?_eq_some_iff.1 bD).1
      replace hO1 := hO1.below hB
      replace hO2 := hO2.below hB
      replace HW := Lib.hid (HW.out.trans (hB.mono HW.out.size))
      clear hB
      have kP_0 := hp_cell (j := 0) bP rfl
      have kP_1 := hp_cell (j := 1) bP rfl
      have kP_2 := hp_cell (j := 2) bP rfl
      have kQ_0 := hp_cell (j := 0) bQ rfl
      have kQ_1 := hp_cell (j := 1) bQ rfl
      have kQ_2 := hp_cell (j := 2) bQ rfl
      have kD_0 := hp_cell (j := 0) bD rfl
      have kD_1 := hp_cell (j := 1) bD rfl
      have kD_2 := hp_cell (j := 2) bD rfl
      go_wp2_with fail
      refine (same_ref a b A1 n cap1 (setD a b n c x y p) a b A n cap c ha hb ha hb hn1 hm1 hn hmax _ hO1.pix (hP.below HW.out)).mono ?_
      rintro e w12 ⟨rfl, hB⟩
      rw [H1.out]
      clear kP_0 kP_1 kP_2 kQ_0 kQ_1 kQ_2 kD_0 kD_1 kD_2
      replace bP := hp_below bP hB (Array.getElem?_eq_some_iff.1 bP).1
      replace bQ := hp_below bQ hB (Array.getElem?_eq_some_iff.1 bQ).1
      replace bD := hp_below bD hB (Array.getElem?_eq_some_iff.1 bD).1
      replace hO1 := hO1.below hB
      replace hO2 := hO2.below hB
      replace HW := Lib.hid (HW.out.trans (hB.mono HW.out.size))
      clear hB
      have kP_0 := hp_cell (j := 0) bP rfl
      have kP_1 := hp_cell (j := 1) bP rfl
      have kP_2 := hp_cell (j := 2) bP rfl
      have kQ_0 := hp_cell (j := 0) bQ rfl
      have kQ_1 := hp_cell (j := 1) bQ rfl
      have kQ_2 := hp_cell (j := 2) bQ rfl
      have kD_0 := hp_cell (j := 0) bD rfl
      have kD_1 := hp_cell (j := 1) bD rfl
      have kD_2 := hp_cell (j := 2) bD rfl
      go_wp2_with fail
      refine (same_prog a b A n cap c a b A n cap c ha hb ha hb hn hmax hn hmax _ (hP.below HW.out) (hP.below HW.out)).mono ?_
      rintro e w13 ⟨rfl, hB⟩
      rw [H4.out]
      clear kP_0 kP_1 kP_2 kQ_0 kQ_1 kQ_2 kD_0 kD_1 kD_2
      replace bP := hp_below bP hB (Array.getElem?_eq_some_iff.1 bP).1
      replace bQ := hp_below bQ hB (Array.getElem?_eq_some_iff.1 bQ).1
      replace bD := hp_below bD hB (Array.getElem?_eq_some_iff.1 bD).1
      replace hO1 := hO1.below hB
      replace hO2 := hO2.below hB
      replace HW := Lib.hid (HW.out.trans (hB.mono HW.out.size))
      clear hB
      go_wp2
      go_ret
      exact ⟨rfl, HW.out⟩
end Go.Proofs.Ytlefaobmpbbcaaa
