/- PaletteDraws: the walk. -/
import Derived.Test.YtnjlklcggcfcgaaAw10
import Derived.Test.YtnjlklcggcfcgaaOpC
namespace Go.Proofs.Ytnjlklcggcfcgaa
set_option linter.unusedVariables false
open Go.ChangeShapes Go.WideShapes Go.ChangeAt Go.RowKit

theorem draw_may {a b : Int} {m : Nat} {L : List P4} {d : Nat → Nat} (h : drawE a b m L d = 0) (hm : (m : Int) = a * b) : mayB a b (4 * m) = true := by
  have hz : sizeE a b = 0 := by
    by_cases e : sizeE a b = 0
    · exact e
    · unfold drawE at h; rw [if_pos e] at h; exact absurd h e
  unfold mayB
  rw [Int.mul_assoc, ← hm]
  simp [hz]
theorem drawE_lt {a b : Int} {m : Nat} {L : List P4} {d : Nat → Nat} : 0 ≤ drawE a b m L d ∧ drawE a b m L d ≤ 255 := by
  unfold drawE sizeE
  (repeat' split) <;> omega
set_option maxRecDepth 100000 in
set_option maxHeartbeats 1000000 in
theorem draws_walk (A : Option Addr) (cap : Nat) (L : List P4) (hL4 : ∀ q ∈ L, w4 q) (h1 : L.length ≤ cap) (h2 : cap ≤ maxLen) (a b : Int) (ha : In64 a) (hb : In64 b) (AI : Option Addr) (m capI : Nat) (d : Nat → Nat) (hd : ∀ i, d i < 256) (h3 : m ≤ capI) (h4 : capI ≤ maxLen) (w : World)
    (hS : Sl w (.slice A L.length cap) 4 L.length (cellsP L)) (hI : Byt w AI m d) :
    Calls Try.prog 4 #[.slice A L.length cap, .agg #[.int .i64 a, .int .i64 b], .slice AI m capI] w fun e w' => e = .returned (.bool true) ∧ Below w.heap.size w w' := by
  have HD := Lib.hid hd
  clear hd
  have HW := Lib.hid (Below.refl w.heap.size w)
  have bP := hp_new0 (w) (.cells #[.int .i64 a, .int .i64 b] 38)
  replace hS := hS.below ((Below.refl _ (w)).alloc (Nat.le_refl _) (.cells #[.int .i64 a, .int .i64 b] 38))
  replace hI := hI.below ((Below.refl _ (w)).alloc (Nat.le_refl _) (.cells #[.int .i64 a, .int .i64 b] 38))
  replace HW := Lib.hid (HW.out.alloc HW.out.size (.cells #[.int .i64 a, .int .i64 b] 38))
  go_enter Try.func4, Try.ntmps4
  go_wp2_with fail
  refine (awake10 _).mono ?_
  rintro e w1 ⟨rfl, hB⟩
  replace bP := hp_below bP hB (Array.getElem?_eq_some_iff.1 bP).1
  replace hS := hS.below hB
  replace hI := hI.below hB
  replace HW := Lib.hid (HW.out.trans (hB.mono HW.out.size))
  clear hB
  have kP_0 := hp_cell (j := 0) bP rfl
  have kP_1 := hp_cell (j := 1) bP rfl
  unfold maxLen at h2 h4
  by_cases h8 : 300 < L.length
  · have t8 : decide ((300 : Int) < (L.length : Int)) = true := by simp; omega
    go_wp2
    go_ret
    exact ⟨rfl, HW.out⟩
  have t8 : decide ((300 : Int) < (L.length : Int)) = false := by simp; omega
  by_cases h9 : 5000 < m
  · have t9 : decide ((5000 : Int) < (m : Int)) = true := by simp; omega
    go_wp2
    go_ret
    exact ⟨rfl, HW.out⟩
  have t9 : decide ((5000 : Int) < (m : Int)) = false := by simp; omega
  go_wp2_with fail
  refine (draw_prog a b A cap 3 L AI m capI d ha hb (by omega) HD.out h3 (by unfold maxLen; omega) _ hS hI).mono ?_
  rintro e w2 ⟨⟨hE, hm, A2, cap2, rfl, hN⟩ | ⟨hE, rfl⟩, hB⟩
  case inl =>
    clear kP_0 kP_1
    replace bP := hp_below bP hB (Array.getElem?_eq_some_iff.1 bP).1
    replace hS := hS.below hB
    replace hI := hI.below hB
    replace HW := Lib.hid (HW.out.trans (hB.mono HW.out.size))
    clear hB
    obtain ⟨hn2, hm2, hz2, hO⟩ := hN
    have hmy := draw_may hE hm
    replace bP := hp_alloc (.cells #[.int .i64 a, .int .i64 b, .slice A2 (4 * m) cap2] 24) bP
    have bQ := hp_new0 (w2) (.cells #[.int .i64 a, .int .i64 b, .slice A2 (4 * m) cap2] 24)
    replace hS := hS.below ((Below.refl _ (w2)).alloc (Nat.le_refl _) (.cells #[.int .i64 a, .int .i64 b, .slice A2 (4 * m) cap2] 24))
    replace hI := hI.below ((Below.refl _ (w2)).alloc (Nat.le_refl _) (.cells #[.int .i64 a, .int .i64 b, .slice A2 (4 * m) cap2] 24))
    replace hO := hO.below ((Below.refl _ (w2)).alloc (Nat.le_refl _) (.cells #[.int .i64 a, .int .i64 b, .slice A2 (4 * m) cap2] 24))
    replace HW := Lib.hid (HW.out.alloc HW.out.size (.cells #[.int .i64 a, .int .i64 b, .slice A2 (4 * m) cap2] 24))
    have kP_0 := hp_cell (j := 0) bP rfl
    have kP_1 := hp_cell (j := 1) bP rfl
    have kQ_0 := hp_cell (j := 0) bQ rfl
    have kQ_1 := hp_cell (j := 1) bQ rfl
    have kQ_2 := hp_cell (j := 2) bQ rfl
    go_wp2_with fail
    refine (draw_ref a b A cap 3 L AI m capI d ha hb (by omega) HD.out h3 (by unfold maxLen; omega) _ hS hI).mono ?_
    rintro e w3 ⟨⟨_, _, A3, cap3, rfl, hN⟩ | ⟨h, _⟩, hB⟩
    rotate_left
    · exact absurd hE h
    clear kP_0 kP_1 kQ_0 kQ_1 kQ_2
    replace bP := hp_below bP hB (Array.getElem?_eq_some_iff.1 bP).1
    replace bQ := hp_below bQ hB (Array.getElem?_eq_some_iff.1 bQ).1
    replace hS := hS.below hB
    replace hI := hI.below hB
    replace hO := hO.below hB
    replace HW := Lib.hid (HW.out.trans (hB.mono HW.out.size))
    clear hB
    obtain ⟨hn3, hm3, hz3, hO3⟩ := hN
    replace bP := hp_alloc (.cells #[.int .i64 a, .int .i64 b, .slice A3 (4 * m) cap3] 24) bP
    replace bQ := hp_alloc (.cells #[.int .i64 a, .int .i64 b, .slice A3 (4 * m) cap3] 24) bQ
    have bS := hp_new0 (w3) (.cells #[.int .i64 a, .int .i64 b, .slice A3 (4 * m) cap3] 24)
    replace hS := hS.below ((Below.refl _ (w3)).alloc (Nat.le_refl _) (.cells #[.int .i64 a, .int .i64 b, .slice A3 (4 * m) cap3] 24))
    replace hI := hI.below ((Below.refl _ (w3)).alloc (Nat.le_refl _) (.cells #[.int .i64 a, .int .i64 b, .slice A3 (4 * m) cap3] 24))
    replace hO := hO.below ((Below.refl _ (w3)).alloc (Nat.le_refl _) (.cells #[.int .i64 a, .int .i64 b, .slice A3 (4 * m) cap3] 24))
    replace hO3 := hO3.below ((Below.refl _ (w3)).alloc (Nat.le_refl _) (.cells #[.int .i64 a, .int .i64 b, .slice A3 (4 * m) cap3] 24))
    replace HW := Lib.hid (HW.out.alloc HW.out.size (.cells #[.int .i64 a, .int .i64 b, .slice A3 (4 * m) cap3] 24))
    have kP_0 := hp_cell (j := 0) bP rfl
    have kP_1 := hp_cell (j := 1) bP rfl
    have kQ_0 := hp_cell (j := 0) bQ rfl
    have kQ_1 := hp_cell (j := 1) bQ rfl
    have kQ_2 := hp_cell (j := 2) bQ rfl
    have kS_0 := hp_cell (j := 0) bS rfl
    have kS_1 := hp_cell (j := 1) bS rfl
    have kS_2 := hp_cell (j := 2) bS rfl
    go_wp2_with fail
    refine (same_ref a b A2 (4 * m) cap2 _ a b A3 (4 * m) cap3 (drawC L d) ha hb ha hb hn2 hm2 hn3 hm3 _ hO.pix hO3.pix).mono ?_
    rintro e w4 ⟨rfl, hB⟩
    rw [sameB_refl _ hmy]
    clear kP_0 kP_1 kQ_0 kQ_1 kQ_2 kS_0 kS_1 kS_2
    replace bP := hp_below bP hB (Array.getElem?_eq_some_iff.1 bP).1
    replace bQ := hp_below bQ hB (Array.getElem?_eq_some_iff.1 bQ).1
    replace bS := hp_below bS hB (Array.getElem?_eq_some_iff.1 bS).1
    replace hS := hS.below hB
    replace hI := hI.below hB
    replace hO := hO.below hB
    replace hO3 := hO3.below hB
    replace HW := Lib.hid (HW.out.trans (hB.mono HW.out.size))
    clear hB
    go_wp2
    go_ret
    exact ⟨rfl, HW.out⟩
  case inr =>
    clear kP_0 kP_1
    replace bP := hp_below bP hB (Array.getElem?_eq_some_iff.1 bP).1
    replace hS := hS.below hB
    replace hI := hI.below hB
    replace HW := Lib.hid (HW.out.trans (hB.mono HW.out.size))
    clear hB
    replace bP := hp_alloc (.cells #[.int .i64 0, .int .i64 0, .slice none 0 0] 24) bP
    have bQ := hp_new0 (w2) (.cells #[.int .i64 0, .int .i64 0, .slice none 0 0] 24)
    replace hS := hS.below ((Below.refl _ (w2)).alloc (Nat.le_refl _) (.cells #[.int .i64 0, .int .i64 0, .slice none 0 0] 24))
    replace hI := hI.below ((Below.refl _ (w2)).alloc (Nat.le_refl _) (.cells #[.int .i64 0, .int .i64 0, .slice none 0 0] 24))
    replace HW := Lib.hid (HW.out.alloc HW.out.size (.cells #[.int .i64 0, .int .i64 0, .slice none 0 0] 24))
    have kP_0 := hp_cell (j := 0) bP rfl
    have kP_1 := hp_cell (j := 1) bP rfl
    have kQ_0 := hp_cell (j := 0) bQ rfl
    have kQ_1 := hp_cell (j := 1) bQ rfl
    have kQ_2 := hp_cell (j := 2) bQ rfl
    have HL := Lib.hid (@drawE_lt a b m L d)
    obtain ⟨E, hEE⟩ : ∃ E, E = drawE a b m L d := ⟨_, rfl⟩
    rw [← hEE] at hE HL ⊢
    have HEE := Lib.hid hEE
    clear hEE
    go_wp2_with fail
    refine (draw_ref a b A cap 3 L AI m capI d ha hb (by omega) HD.out h3 (by unfold maxLen; omega) _ hS hI).mono ?_
    rintro e w3 ⟨⟨h, _⟩ | ⟨_, rfl⟩, hB⟩
    · exact absurd (HEE.out.trans h) hE
    rw [← HEE.out]
    clear kP_0 kP_1 kQ_0 kQ_1 kQ_2
    replace bP := hp_below bP hB (Array.getElem?_eq_some_iff.1 bP).1
    replace bQ := hp_below bQ hB (Array.getElem?_eq_some_iff.1 bQ).1
    replace hS := hS.below hB
    replace hI := hI.below hB
    replace HW := Lib.hid (HW.out.trans (hB.mono HW.out.size))
    clear hB
    replace bP := hp_alloc (.cells #[.int .i64 0, .int .i64 0, .slice none 0 0] 24) bP
    replace bQ := hp_alloc (.cells #[.int .i64 0, .int .i64 0, .slice none 0 0] 24) bQ
    have bS := hp_new0 (w3) (.cells #[.int .i64 0, .int .i64 0, .slice none 0 0] 24)
    replace hS := hS.below ((Below.refl _ (w3)).alloc (Nat.le_refl _) (.cells #[.int .i64 0, .int .i64 0, .slice none 0 0] 24))
    replace hI := hI.below ((Below.refl _ (w3)).alloc (Nat.le_refl _) (.cells #[.int .i64 0, .int .i64 0, .slice none 0 0] 24))
    replace HW := Lib.hid (HW.out.alloc HW.out.size (.cells #[.int .i64 0, .int .i64 0, .slice none 0 0] 24))
    have kP_0 := hp_cell (j := 0) bP rfl
    have kP_1 := hp_cell (j := 1) bP rfl
    have kQ_0 := hp_cell (j := 0) bQ rfl
    have kQ_1 := hp_cell (j := 1) bQ rfl
    have kQ_2 := hp_cell (j := 2) bQ rfl
    have kS_0 := hp_cell (j := 0) bS rfl
    have kS_1 := hp_cell (j := 1) bS rfl
    have kS_2 := hp_cell (j := 2) bS rfl
    have hE2 : (E == 0) = false := by simpa using hE
    have hE3 : (E == E) = true := by simp
    go_wp2
    go_ret
    exact ⟨rfl, HW.out⟩
end Go.Proofs.Ytnjlklcggcfcgaa
