/- RasterApart: the walk. -/
import Derived.Test.YtlefaobmpbbcaaaPixels
import Derived.Test.YtlefaobmpbbcaaaCols
import Derived.Test.YtlefaobmpbbcaaaBits
namespace Go.Proofs.Ytlefaobmpbbcaaa
set_option linter.unusedVariables false
open Go.ChangeShapes Go.WideShapes Go.ChangeAt Go.RowKit

/-- One sample turned by v. -/
def updX (c : Nat → Nat) (k v : Nat) (j : Nat) : Nat := if j = k then c k ^^^ v else c j
theorem xor_self_iff (x v : Nat) : x ^^^ v = x ↔ v = 0 := by
  constructor
  · intro h
    have : x ^^^ (x ^^^ v) = x ^^^ x := by rw [h]
    simpa [← Nat.xor_assoc] using this
  · rintro rfl; simp
theorem same_upd {a b : Int} {n : Nat} (c : Nat → Nat) (k v : Nat) (h : mayB a b n = true) (hk : k < n) : sameB a b n (updX c k v) a b n c = decide (v = 0) := by
  rw [Bool.eq_iff_iff]
  simp only [sameB, h, Bool.true_and, decide_true, allEq_iff, decide_eq_true_eq]
  constructor
  · intro h2
    have h3 := h2 k hk
    unfold updX at h3
    rw [if_pos rfl] at h3
    exact (xor_self_iff _ _).1 h3
  · rintro rfl j hj
    unfold updX
    split
    · subst_vars; simp
    · rfl
theorem same_turn {a b : Int} {n : Nat} (c : Nat → Nat) (h : mayB a b n = true) : sameB b a n c a b n c = decide (a = b) := by
  by_cases e : a = b
  · subst e
    rw [sameB_self c h]
    simp
  · have e2 : ¬b = a := fun h => e h.symm
    simp [sameB, e, e2]
theorem Own.setX {B : Nat} {w : World} {n : Nat} {c : Nat → Nat} {g : Nat} (h : Own B w (some ⟨g, 0, none⟩) n c) {k v : Nat} (hk : k < n) : Own B (w.setCell ⟨g, k, none⟩ (.int .u16 ((c k ^^^ v : Nat) : Int))) (some ⟨g, 0, none⟩) n (updX c k v) := fun hn => by
  obtain ⟨g', cur, he, hB, hg, hs, hc⟩ := h hn
  injection he with he
  injection he with he
  subst he
  refine ⟨g, cur.setIfInBounds k (.int .u16 ((c k ^^^ v : Nat) : Int)), rfl, hB, ?_, by simpa using hs, fun j hj => ?_⟩
  · have hl := (Array.getElem?_eq_some_iff.1 hg).1
    have he := (Array.getElem?_eq_some_iff.1 hg).2
    unfold World.setCell
    simp [hl, he, Array.getElem_modify]
  · unfold updX
    by_cases e : j = k
    · subst e
      rw [if_pos rfl]
      simp [Array.getElem?_setIfInBounds]
      omega
    · rw [if_neg e, Array.getElem?_setIfInBounds, if_neg (by omega)]
      exact hc j hj

theorem pixB {w W : World} {o : Obj} {A : Option Addr} {n : Nat} {c : Nat → Nat} (h : Pix (w.alloc o) A n c) (hb : Below (w.heap.size + 1) (w.alloc o) W) : Pix W A n c := h.below (by rw [World.size_alloc]; exact hb)
theorem keep_below {w8 w w' : World} {o : Obj} (h : Below (w8.heap.size + 1) (w8.alloc o) w) (hb : Below w.heap.size w w') : Below (w8.heap.size + 1) (w8.alloc o) w' := h.trans (hb.mono (by have := h.size; rwa [World.size_alloc] at this))
set_option maxRecDepth 100000 in
set_option maxHeartbeats 4000000 in
theorem apart_walk (a b : Int) (A : Option Addr) (n cap : Nat) (c : Nat → Nat) (hc : ∀ i, c i < 65536) (t v : Nat) (ht : t < 65536) (hv : v < 65536) (ha : In64 a) (hb : In64 b) (hn : n ≤ cap) (hmax : cap ≤ maxLen) (hz : A = none → cap = 0) (w : World) (hP : Pix w A n c) :
    Calls Try.prog 7 #[.agg #[.int .i64 a, .int .i64 b, .slice A n cap], .int .u16 t, .int .u16 v] w fun e w' => e = .returned (.bool true) ∧ Below w.heap.size w w' := by
  obtain ⟨m, hm⟩ : ∃ m, mayB a b n = m := ⟨_, rfl⟩
  have HM := Lib.hid hm
  clear hm
  have HW := Lib.hid (Below.refl w.heap.size w)
  have bP := hp_new0 (w) (.cells #[.int .i64 a, .int .i64 b, .slice A n cap] 25)
  replace HW := Lib.hid (HW.out.alloc HW.out.size (.cells #[.int .i64 a, .int .i64 b, .slice A n cap] 25))
  go_enter Try.func7, Try.ntmps7
  go_wp2_with fail
  refine (awake8 _).mono ?_
  rintro e w1 ⟨rfl, hB⟩
  replace bP := hp_below bP hB (Array.getElem?_eq_some_iff.1 bP).1
  replace HW := Lib.hid (HW.out.trans (hB.mono HW.out.size))
  clear hB
  have kP_0 := hp_cell (j := 0) bP rfl
  have kP_1 := hp_cell (j := 1) bP rfl
  have kP_2 := hp_cell (j := 2) bP rfl
  have hS : ∀ m, mayB a b n = m → sameB a b n c a b n c = m := fun m h => by cases m with | true => exact sameB_self c h | false => simp [sameB, h]
  have H4 := Lib.hid (hS m HM.out)
  clear hS
  by_cases h7 : 8000 < n
  · have t7 : decide ((8000 : Int) < (n : Int)) = true := by simp; omega
    go_wp2_with fail
    refine (may_ref a b A n cap ha hb hn hmax _).mono ?_
    rintro e w2 ⟨rfl, hB⟩
    rw [HM.out]
    clear kP_0 kP_1 kP_2
    replace bP := hp_below bP hB (Array.getElem?_eq_some_iff.1 bP).1
    replace HW := Lib.hid (HW.out.trans (hB.mono HW.out.size))
    clear hB
    have kP_0 := hp_cell (j := 0) bP rfl
    have kP_1 := hp_cell (j := 1) bP rfl
    have kP_2 := hp_cell (j := 2) bP rfl
    cases m with
    | true =>
      go_wp2
      go_ret
      exact ⟨rfl, HW.out⟩
    | false =>
      go_wp2_with fail
      refine (same_prog a b A n cap c a b A n cap c ha hb ha hb hn hmax hn hmax _ (hP.below HW.out) (hP.below HW.out)).mono ?_
      rintro e w3 ⟨rfl, hB⟩
      rw [H4.out]
      clear kP_0 kP_1 kP_2
      replace bP := hp_below bP hB (Array.getElem?_eq_some_iff.1 bP).1
      replace HW := Lib.hid (HW.out.trans (hB.mono HW.out.size))
      clear hB
      go_wp2
      go_ret
      exact ⟨rfl, HW.out⟩
  have t7 : decide ((8000 : Int) < (n : Int)) = false := by simp; omega
  go_wp2_with fail
  refine (may_ref a b A n cap ha hb hn hmax _).mono ?_
  rintro e w2 ⟨rfl, hB⟩
  rw [HM.out]
  clear kP_0 kP_1 kP_2
  replace bP := hp_below bP hB (Array.getElem?_eq_some_iff.1 bP).1
  replace HW := Lib.hid (HW.out.trans (hB.mono HW.out.size))
  clear hB
  have kP_0 := hp_cell (j := 0) bP rfl
  have kP_1 := hp_cell (j := 1) bP rfl
  have kP_2 := hp_cell (j := 2) bP rfl
  cases m with
  | false =>
    go_wp2_with fail
    refine (may_ref a b A n cap ha hb hn hmax _).mono ?_
    rintro e w3 ⟨rfl, hB⟩
    rw [HM.out]
    clear kP_0 kP_1 kP_2
    replace bP := hp_below bP hB (Array.getElem?_eq_some_iff.1 bP).1
    replace HW := Lib.hid (HW.out.trans (hB.mono HW.out.size))
    clear hB
    have kP_0 := hp_cell (j := 0) bP rfl
    have kP_1 := hp_cell (j := 1) bP rfl
    have kP_2 := hp_cell (j := 2) bP rfl
    go_wp2_with fail
    refine (same_prog a b A n cap c a b A n cap c ha hb ha hb hn hmax hn hmax _ (hP.below HW.out) (hP.below HW.out)).mono ?_
    rintro e w4 ⟨rfl, hB⟩
    rw [H4.out]
    clear kP_0 kP_1 kP_2
    replace bP := hp_below bP hB (Array.getElem?_eq_some_iff.1 bP).1
    replace HW := Lib.hid (HW.out.trans (hB.mono HW.out.size))
    clear hB
    go_wp2
    go_ret
    exact ⟨rfl, HW.out⟩
  | true =>
    obtain ⟨N, hN, hN1, hN2, _⟩ := may_four HM.out
    have n0 : 0 < n := by omega
    clear hN hN1 hN2
    obtain ⟨k, hk⟩ : ∃ k : Nat, k = t % n := ⟨_, rfl⟩
    have hkI : (t : Int) % (n : Int) = (k : Int) := by rw [hk]; simp
    have hkn : k < n := by rw [hk]; exact Nat.mod_lt _ n0
    clear hk
    have HK := Lib.hid hkI
    clear hkI
    have zn : ((n : Int) == 0) = false := by rw [beq_eq_false_iff_ne]; omega
    have zn2 : ¬n = 0 := by omega
    have s2 : w.heap.size < w2.heap.size := (Array.getElem?_eq_some_iff.1 bP).1
    go_wp2_with fail
    refine (copy_prog a b A n cap c hn hmax hz (by omega) _ (hP.below HW.out)).mono ?_
    rintro e w5 ⟨⟨A2, cap2, rfl, hO2⟩, hB⟩
    clear kP_0 kP_1 kP_2
    replace bP := hp_below bP hB (Array.getElem?_eq_some_iff.1 bP).1
    replace HW := Lib.hid (HW.out.trans (hB.mono HW.out.size))
    clear hB
    obtain ⟨hn2, hm2, hz2, hO2⟩ := hO2
    have hk2 := hO2.lt
    replace bP := hp_alloc (.cells #[.int .i64 a, .int .i64 b, .slice A2 n cap2] 25) bP
    have bQ := hp_new0 (w5) (.cells #[.int .i64 a, .int .i64 b, .slice A2 n cap2] 25)
    replace hO2 := hO2.below ((Below.refl _ (w5)).alloc (Nat.le_refl _) (.cells #[.int .i64 a, .int .i64 b, .slice A2 n cap2] 25))
    replace HW := Lib.hid (HW.out.alloc HW.out.size (.cells #[.int .i64 a, .int .i64 b, .slice A2 n cap2] 25))
    have kP_0 := hp_cell (j := 0) bP rfl
    have kP_1 := hp_cell (j := 1) bP rfl
    have kP_2 := hp_cell (j := 2) bP rfl
    have kQ_0 := hp_cell (j := 0) bQ rfl
    have kQ_1 := hp_cell (j := 1) bQ rfl
    have kQ_2 := hp_cell (j := 2) bQ rfl
    unfold maxLen at hmax hm2
    have H5 := Lib.hid (sameB_self c HM.out)
    go_wp2_with fail
    refine (same_prog a b A2 n cap2 c a b A n cap c ha hb ha hb hn2 (by unfold maxLen; omega) hn (by unfold maxLen; omega) _ hO2.pix (hP.below HW.out)).mono ?_
    rintro e w6 ⟨rfl, hB⟩
    rw [H5.out]
    clear kP_0 kP_1 kP_2 kQ_0 kQ_1 kQ_2
    replace bP := hp_below bP hB (Array.getElem?_eq_some_iff.1 bP).1
    replace bQ := hp_below bQ hB (Array.getElem?_eq_some_iff.1 bQ).1
    replace hO2 := hO2.below hB
    replace HW := Lib.hid (HW.out.trans (hB.mono HW.out.size))
    clear hB
    obtain ⟨g, cur, rfl, hgB, hg, hgs, hgc⟩ := hO2 n0
    have gw := (hk2 g n0 rfl).2
    clear hk2
    have kg : w6.cell? ⟨g, k, none⟩ = some (.int .u16 (c k : Nat)) := hp_cell hg (hgc k hkn)
    have fg : ∀ j, w6.frozen? ⟨g, j, none⟩ = false := fun j => by simp [World.frozen?, hg]
    have kP_0 := hp_cell (j := 0) bP rfl
    have kP_1 := hp_cell (j := 1) bP rfl
    have kP_2 := hp_cell (j := 2) bP rfl
    have kQ_0 := hp_cell (j := 0) bQ rfl
    have kQ_1 := hp_cell (j := 1) bQ rfl
    have kQ_2 := hp_cell (j := 2) bQ rfl
    have gP1 : ¬g = w.heap.size := by omega
    have gP2 : ¬w.heap.size = g := by omega
    have HO2 := Lib.hid hO2
    have HK2 := HK.out
    clear hO2 hg hgs hgc
    go_wp2_with fail
    rw [bits_xor_u16 (c k) v (hc k) hv]
    clear kP_0 kP_1 kP_2 kQ_0 kQ_1 kQ_2
    clear kg fg
    replace bP := ((grown_set w6 g k (.int .u16 ((c k ^^^ v : Nat) : Int))).block _ (Array.getElem?_eq_some_iff.1 bP).1 (fun e => by injection e with e; omega)).trans bP
    replace bQ := ((grown_set w6 g k (.int .u16 ((c k ^^^ v : Nat) : Int))).block _ (Array.getElem?_eq_some_iff.1 bQ).1 (fun e => by injection e with e; omega)).trans bQ
    replace HW := Lib.hid (HW.out.setCell (p := ⟨g, k, none⟩) (by simp; omega) (.int .u16 ((c k ^^^ v : Nat) : Int)))
    have hO2 := HO2.out.setX (v := v) hkn
    generalize w6.setCell ⟨g, k, none⟩ (.int .u16 ((c k ^^^ v : Nat) : Int)) = w7 at *
    obtain ⟨q, hq⟩ : ∃ q, ((v : Int) == 0) = q := ⟨_, rfl⟩
    obtain ⟨r, hr⟩ : ∃ r, (a == b) = r := ⟨_, rfl⟩
    have H6 := Lib.hid ((same_upd c k v HM.out hkn).trans (show decide (v = 0) = q by rw [← hq, Bool.eq_iff_iff]; simp))
    have H7 := Lib.hid ((same_turn c HM.out).trans (show decide (a = b) = r by rw [← hr, Bool.eq_iff_iff]; simp))
    have qq : (q == q) = true := by simp
    have rr : (r == r) = true := by simp
    clear HK2 HO2
    have hmax' : cap ≤ maxLen := by unfold maxLen; omega
    have hm2' : cap2 ≤ maxLen := by unfold maxLen; omega
    refine (copy_prog a b A n cap c hn hmax' hz (by omega) _ (hP.below HW.out)).mono ?_
    rintro e w8 ⟨⟨A3, cap3, rfl, hO3⟩, hB⟩
    replace bP := hp_below bP hB (Array.getElem?_eq_some_iff.1 bP).1
    replace bQ := hp_below bQ hB (Array.getElem?_eq_some_iff.1 bQ).1
    replace hO2 := hO2.below hB
    replace HW := Lib.hid (HW.out.trans (hB.mono HW.out.size))
    clear hB
    obtain ⟨hn3, hm3, hz3, hO3⟩ := hO3
    replace bP := hp_alloc (.cells #[.int .i64 b, .int .i64 a, .slice A3 n cap3] 25) bP
    replace bQ := hp_alloc (.cells #[.int .i64 b, .int .i64 a, .slice A3 n cap3] 25) bQ
    have bD := hp_new0 (w8) (.cells #[.int .i64 b, .int .i64 a, .slice A3 n cap3] 25)
    replace hO2 := hO2.below ((Below.refl _ (w8)).alloc (Nat.le_refl _) (.cells #[.int .i64 b, .int .i64 a, .slice A3 n cap3] 25))
    replace hO3 := hO3.below ((Below.refl _ (w8)).alloc (Nat.le_refl _) (.cells #[.int .i64 b, .int .i64 a, .slice A3 n cap3] 25))
    replace HW := Lib.hid (HW.out.alloc HW.out.size (.cells #[.int .i64 b, .int .i64 a, .slice A3 n cap3] 25))
    have kP_0 := hp_cell (j := 0) bP rfl
    have kP_1 := hp_cell (j := 1) bP rfl
    have kP_2 := hp_cell (j := 2) bP rfl
    have kQ_0 := hp_cell (j := 0) bQ rfl
    have kQ_1 := hp_cell (j := 1) bQ rfl
    have kQ_2 := hp_cell (j := 2) bQ rfl
    have kD_0 := hp_cell (j := 0) bD rfl
    have kD_1 := hp_cell (j := 1) bD rfl
    have kD_2 := hp_cell (j := 2) bD rfl
    have hPn := hP.below HW.out
    have HBP := Lib.hid bP
    have HBQ := Lib.hid bQ
    have HBD := Lib.hid bD
    clear bP bQ bD
    have HO2 := Lib.hid hO2
    have HO3 := Lib.hid hO3
    have HPn := Lib.hid hPn
    clear hO2 hO3 hPn
    go_wp2_with fail
    have kB : Below (w8.heap.size + 1) (w8.alloc (.cells #[.int .i64 b, .int .i64 a, .slice A3 n cap3] 25)) (w8.alloc (.cells #[.int .i64 b, .int .i64 a, .slice A3 n cap3] 25)).drew := (Below.refl _ _).drew
    go_region_held3 (fun w' => w'.cell? ⟨w.heap.size, 0, none⟩ = some (.int .i64 a) ∧ w'.cell? ⟨w.heap.size, 1, none⟩ = some (.int .i64 b) ∧ w'.cell? ⟨w.heap.size, 2, none⟩ = some (.slice A n cap) ∧ w'.cell? ⟨w5.heap.size, 0, none⟩ = some (.int .i64 a) ∧ w'.cell? ⟨w5.heap.size, 1, none⟩ = some (.int .i64 b) ∧ w'.cell? ⟨w5.heap.size, 2, none⟩ = some (.slice (some ⟨g, 0, none⟩) n cap2) ∧ w'.cell? ⟨w8.heap.size, 0, none⟩ = some (.int .i64 b) ∧ w'.cell? ⟨w8.heap.size, 1, none⟩ = some (.int .i64 a) ∧ w'.cell? ⟨w8.heap.size, 2, none⟩ = some (.slice A3 n cap3) ∧ Below (w8.heap.size + 1) (w8.alloc (.cells #[.int .i64 b, .int .i64 a, .slice A3 n cap3] 25)) w')
      (first | go_keep | (go_split_ands; refine ⟨?_, ?_, ?_, ?_, ?_, ?_, ?_, ?_, ?_, ?_⟩ <;> first | assumption | exact (Below.refl _ _).drew | (refine below_keep hB ?_; assumption) | (refine keep_below ?_ hB; assumption)))
      (first | (go_at_call_of 23 cap2; refine (same_prog a b _ n cap2 (updX c k v) a b A n cap c ha hb ha hb hn2 hm2' hn hmax' _ (pixB HO2.out.pix (by first | assumption | (go_split_ands; assumption))) (pixB HPn.out (by first | assumption | (go_split_ands; assumption)))).mono ?_; rintro e w9 ⟨rfl, hB⟩; rw [H6.out]) | (go_at_call_of 23 cap3; refine (same_prog b a A3 n cap3 c a b A n cap c hb ha ha hb hn3 hm3 hn hmax' _ (pixB HO3.out.pix (by first | assumption | (go_split_ands; assumption))) (pixB HPn.out (by first | assumption | (go_split_ands; assumption)))).mono ?_; rintro e w9 ⟨rfl, hB⟩; rw [H7.out]))
    have KB : Below (w8.heap.size + 1) (w8.alloc (.cells #[.int .i64 b, .int .i64 a, .slice A3 n cap3] 25)) w9 := by first | assumption | (go_split_ands; assumption)
    go_wp2
    go_ret
    exact ⟨rfl, HW.out.trans (KB.mono (by have := HW.out.size; rwa [World.size_alloc] at this))⟩
end Go.Proofs.Ytlefaobmpbbcaaa
