/- DepthPixel: the walk. -/
import Derived.Test.YtpfpfklmmcejbaaFitR
import Derived.Test.YtpfpfklmmcejbaaAw9
import Derived.Test.YtpfpfklmmcejbaaCopy
import Derived.Deep.RegionHeld3
namespace Go.Proofs.Ytpfpfklmmcejbaa
set_option linter.unusedVariables false
open Go.ChangeShapes Go.WideShapes Go.ChangeAt Go.RowKit

def setOne (c : Nat → Nat) (k v : Nat) (j : Nat) : Nat := if j = k then v else c j
theorem Own.setV {B : Nat} {w : World} {n : Nat} {c : Nat → Nat} {g : Nat} (h : Own B w (some ⟨g, 0, none⟩) n c) {k v : Nat} (hk : k < n) : Own B (w.setCell ⟨g, k, none⟩ (.int .u16 (v : Int))) (some ⟨g, 0, none⟩) n (setOne c k v) := fun hn => by
  obtain ⟨g', cur, he, hB, hg, hs, hc⟩ := h hn
  injection he with he
  injection he with he
  subst he
  refine ⟨g, cur.setIfInBounds k (.int .u16 (v : Int)), rfl, hB, ?_, by simpa using hs, fun j hj => ?_⟩
  · have hl := (Array.getElem?_eq_some_iff.1 hg).1
    have he := (Array.getElem?_eq_some_iff.1 hg).2
    unfold World.setCell
    simp [hl, he, Array.getElem_modify]
  · unfold setOne
    by_cases e : j = k
    · subst e
      rw [if_pos rfl]
      simp [Array.getElem?_setIfInBounds]
      omega
    · rw [if_neg e, Array.getElem?_setIfInBounds, if_neg (by omega)]
      exact hc j hj
theorem keep_below2 {w8 w w' : World} (h : Below w8.heap.size w8 w) (hb : Below w.heap.size w w') : Below w8.heap.size w8 w' := h.trans (hb.mono h.size)
theorem fits_gif {a b : Int} {n : Nat} {c : Nat → Nat} (h : fitsB a b n c 2 = true) : bytesB n c = true := by
  simp [fitsB] at h
  exact h.2.2.1
theorem bytes_one {n k : Nat} {c : Nat → Nat} {s : Nat} (hk : k < n) (h : bytesB n c = true) : bytesB n (setOne c k s) = decide (s % 257 = 0) := by
  rw [Bool.eq_iff_iff, bytes_iff, decide_eq_true_eq]
  rw [bytes_iff] at h
  constructor
  · intro h2
    have := h2 k hk
    unfold setOne at this
    rwa [if_pos rfl] at this
  · intro h2 j hj
    unfold setOne
    split
    · exact h2
    · exact h j hj

set_option maxRecDepth 100000 in
set_option maxHeartbeats 4000000 in
theorem dpixel_walk (a b : Int) (A : Option Addr) (n cap : Nat) (c : Nat → Nat) (hc : ∀ i, c i < 65536) (t s : Nat) (ht : t < 65536) (hs : s < 65536) (ha : In64 a) (hb : In64 b) (hn : n ≤ cap) (hmax : cap ≤ maxLen) (hz : A = none → cap = 0) (w : World) (hP : Pix w A n c) :
    Calls Try.prog 7 #[.agg #[.int .i64 a, .int .i64 b, .slice A n cap], .int .u16 t, .int .u16 s] w fun e w' => e = .returned (.bool true) ∧ Below w.heap.size w w' := by
  obtain ⟨m, hm⟩ : ∃ m, mayB a b n = m := ⟨_, rfl⟩
  have HM := Lib.hid hm
  clear hm
  have HW := Lib.hid (Below.refl w.heap.size w)
  have bP := hp_new0 (w) (.cells #[.int .i64 a, .int .i64 b, .slice A n cap] 40)
  replace HW := Lib.hid (HW.out.alloc HW.out.size (.cells #[.int .i64 a, .int .i64 b, .slice A n cap] 40))
  go_enter Try.func7, Try.ntmps7
  go_wp2_with fail
  refine (awake9 _).mono ?_
  rintro e w1 ⟨rfl, rfl⟩
  have kP_0 := hp_cell (j := 0) bP rfl
  have kP_1 := hp_cell (j := 1) bP rfl
  have kP_2 := hp_cell (j := 2) bP rfl
  by_cases h7 : 4000 < n
  · have t7 : decide ((4000 : Int) < (n : Int)) = true := by simp; omega
    go_wp2
    go_ret
    exact ⟨rfl, HW.out⟩
  have t7 : decide ((4000 : Int) < (n : Int)) = false := by simp; omega
  go_wp2_with fail
  refine (may_ref a b A n cap ha hb hn hmax _).mono ?_
  rintro e w2 ⟨rfl, hB⟩
  rw [HM.out]
  clear kP_0 kP_1 kP_2
  replace bP := hp_below bP hB (Array.getElem?_eq_some_iff.1 bP).1
  replace HW := Lib.hid (HW.out.trans (hB.mono HW.out.size))
  clear hB
  have kP_0 := hp_cell (j := 0) bP rfl
  have kP_1 := hp_cell (j := 1) bP rfl
  have kP_2 := hp_cell (j := 2) bP rfl
  cases m with
  | false =>
    go_wp2
    go_ret
    exact ⟨rfl, HW.out⟩
  | true =>
    obtain ⟨N, hN, hN1, hN2, _⟩ := may_four HM.out
    have n0 : 0 < n := by omega
    clear hN hN1 hN2
    obtain ⟨k, hk⟩ : ∃ k : Nat, k = t % n := ⟨_, rfl⟩
    have hkI : (t : Int) % (n : Int) = (k : Int) := by rw [hk]; simp
    have hkn : k < n := by rw [hk]; exact Nat.mod_lt _ n0
    clear hk
    have HK := Lib.hid hkI
    clear hkI
    have zn : ((n : Int) == 0) = false := by rw [beq_eq_false_iff_ne]; omega
    have zn2 : ¬n = 0 := by omega
    have s2 : w.heap.size < w2.heap.size := (Array.getElem?_eq_some_iff.1 bP).1
    go_wp2_with fail
    refine (copy_ref a b A n cap c hn hmax hz (by omega) _ (hP.below HW.out)).mono ?_
    rintro e w5 ⟨⟨A2, cap2, rfl, hO2⟩, hB⟩
    clear kP_0 kP_1 kP_2
    replace bP := hp_below bP hB (Array.getElem?_eq_some_iff.1 bP).1
    replace HW := Lib.hid (HW.out.trans (hB.mono HW.out.size))
    clear hB
    obtain ⟨hn2, hm2, hz2, hO2⟩ := hO2
    have hk2 := hO2.lt
    have hmx := hmax
    have hmx2 := hm2
    unfold maxLen at hmax hm2
    obtain ⟨g, cur, rfl, hgB, hg, hgs, hgc⟩ := hO2 n0
    have gw := (hk2 g n0 rfl).2
    clear hk2
    have kg : (w5.alloc (.cells #[.int .i64 a, .int .i64 b, .slice (some ⟨g, 0, none⟩) n cap2] 40)).cell? ⟨g, k, none⟩ = some (.int .u16 (c k : Nat)) := hp_cell (hp_alloc _ hg) (hgc k hkn)
    have fg : ∀ j, (w5.alloc (.cells #[.int .i64 a, .int .i64 b, .slice (some ⟨g, 0, none⟩) n cap2] 40)).frozen? ⟨g, j, none⟩ = false := fun j => by simp [World.frozen?, hp_alloc _ hg]
    have kg2 : w5.cell? ⟨g, k, none⟩ = some (.int .u16 (c k : Nat)) := hp_cell hg (hgc k hkn)
    have fg2 : ∀ j, w5.frozen? ⟨g, j, none⟩ = false := fun j => by simp [World.frozen?, hg]
    have gP1 : ¬g = w.heap.size := by omega
    have gP2 : ¬w.heap.size = g := by omega
    have gQ1 : ¬g = w5.heap.size := by omega
    have gQ2 : ¬w5.heap.size = g := by omega
    have hO3 := hO2.setV (v := s) hkn
    have bP3 := ((grown_set w5 g k (.int .u16 (s : Int))).block _ (Array.getElem?_eq_some_iff.1 bP).1 (fun e => by injection e with e; omega)).trans bP
    have HW3 := Lib.hid (HW.out.setCell (p := ⟨g, k, none⟩) (by simp; omega) (.int .u16 (s : Int)))
    have HK2 := HK.out
    have s6 : (w5.setCell ⟨g, k, none⟩ (.int .u16 (s : Int))).heap.size = w5.heap.size := by simp [World.setCell]
    clear hO2 hg hgs hgc bP HW
    have hO2 := hO3
    have bP := bP3
    have HW := HW3
    clear hO3 bP3 HW3
    replace bP := hp_alloc (.cells #[.int .i64 a, .int .i64 b, .slice (some ⟨g, 0, none⟩) n cap2] 40) bP
    have bQ := hp_new0 (w5.setCell ⟨g, k, none⟩ (.int .u16 (s : Int))) (.cells #[.int .i64 a, .int .i64 b, .slice (some ⟨g, 0, none⟩) n cap2] 40)
    replace hO2 := hO2.below ((Below.refl _ (w5.setCell ⟨g, k, none⟩ (.int .u16 (s : Int)))).alloc (Nat.le_refl _) (.cells #[.int .i64 a, .int .i64 b, .slice (some ⟨g, 0, none⟩) n cap2] 40))
    replace HW := Lib.hid (HW.out.alloc HW.out.size (.cells #[.int .i64 a, .int .i64 b, .slice (some ⟨g, 0, none⟩) n cap2] 40))
    rw [s6] at bQ
    have kP_0 := hp_cell (j := 0) bP rfl
    have kP_1 := hp_cell (j := 1) bP rfl
    have kP_2 := hp_cell (j := 2) bP rfl
    have kQ_0 := hp_cell (j := 0) bQ rfl
    have kQ_1 := hp_cell (j := 1) bQ rfl
    have kQ_2 := hp_cell (j := 2) bQ rfl
    have hqc : ∀ i, setOne c k s i < 65536 := fun i => by unfold setOne; split; exact hs; exact hc i
    have HQC := Lib.hid hqc
    have HC := Lib.hid hc
    clear hqc hc
    obtain ⟨x3, hx3⟩ : ∃ x, bytesB n c = x := ⟨_, rfl⟩
    obtain ⟨y3, hy3⟩ : ∃ x, bytesB n (setOne c k s) = x := ⟨_, rfl⟩
    obtain ⟨y2, hy2⟩ : ∃ x, fitsB a b n (setOne c k s) 2 = x := ⟨_, rfl⟩
    have h23 : y2 = true → y3 = true := fun h => by rw [← hy3]; exact fits_gif (hy2.trans h)
    have h3q : x3 = true → y3 = decide (s % 257 = 0) := fun h => by rw [← hy3]; exact bytes_one hkn (hx3.trans h)
    have e3 : fitsB a b n c 3 = x3 := by simp [fitsB, HM.out, hx3]
    have q3 : fitsB a b n (setOne c k s) 3 = y3 := by simp [fitsB, HM.out, hy3]
    have q1 : fitsB a b n (setOne c k s) 1 = true := by simp [fitsB, HM.out]
    have q0 : fitsB a b n (setOne c k s) 0 = false := fits_else (by omega)
    have q4 : fitsB a b n (setOne c k s) 4 = false := fits_else (by omega)
    have hts : ((s : Int) % 257 == 0) = decide (s % 257 = 0) := by rw [Bool.eq_iff_iff, beq_iff_eq, decide_eq_true_eq]; omega
    have H23 := Lib.hid h23
    have H3Q := Lib.hid h3q
    have HTS := Lib.hid hts
    clear h23 h3q hts hx3 hy3
    go_wp2_with fail
    refine (fits_prog a b A n cap c 3 HC.out ha hb (by unfold In64; omega) hn hmx _ (hP.below HW.out)).mono ?_
    rintro e w7 ⟨rfl, hB⟩
    rw [e3]
    clear HK2 kg fg kg2 fg2
    clear kP_0 kP_1 kP_2 kQ_0 kQ_1 kQ_2
    replace bP := hp_below bP hB (Array.getElem?_eq_some_iff.1 bP).1
    replace bQ := hp_below bQ hB (Array.getElem?_eq_some_iff.1 bQ).1
    replace hO2 := hO2.below hB
    replace HW := Lib.hid (HW.out.trans (hB.mono HW.out.size))
    clear hB
    have kP_0 := hp_cell (j := 0) bP rfl
    have kP_1 := hp_cell (j := 1) bP rfl
    have kP_2 := hp_cell (j := 2) bP rfl
    have kQ_0 := hp_cell (j := 0) bQ rfl
    have kQ_1 := hp_cell (j := 1) bQ rfl
    have kQ_2 := hp_cell (j := 2) bQ rfl
    cases x3 with
    | false =>
      go_wp2_with fail
      refine (fits_prog a b _ n cap2 (setOne c k s) 2 HQC.out ha hb (by unfold In64; omega) hn2 hmx2 _ hO2.pix).mono ?_
      rintro e w12 ⟨rfl, hB⟩
      rw [hy2]
      clear kP_0 kP_1 kP_2 kQ_0 kQ_1 kQ_2
      replace bP := hp_below bP hB (Array.getElem?_eq_some_iff.1 bP).1
      replace bQ := hp_below bQ hB (Array.getElem?_eq_some_iff.1 bQ).1
      replace hO2 := hO2.below hB
      replace HW := Lib.hid (HW.out.trans (hB.mono HW.out.size))
      clear hB
      have kP_0 := hp_cell (j := 0) bP rfl
      have kP_1 := hp_cell (j := 1) bP rfl
      have kP_2 := hp_cell (j := 2) bP rfl
      have kQ_0 := hp_cell (j := 0) bQ rfl
      have kQ_1 := hp_cell (j := 1) bQ rfl
      have kQ_2 := hp_cell (j := 2) bQ rfl
      cases y2 with
      | false =>
        clear kP_0 kP_1 kP_2 kQ_0 kQ_1 kQ_2
        have kQ_0 := hp_cell (j := 0) bQ rfl
        have kQ_1 := hp_cell (j := 1) bQ rfl
        have kQ_2 := hp_cell (j := 2) bQ rfl
        have kB : Below w12.heap.size w12 w12.drew := (Below.refl _ _).drew
        have HOq := Lib.hid hO2
        clear hO2 bP bQ
        go_wp2_with fail
        go_region_held3 (fun w' => w'.cell? ⟨w5.heap.size, 0, none⟩ = some (.int .i64 a) ∧ w'.cell? ⟨w5.heap.size, 1, none⟩ = some (.int .i64 b) ∧ w'.cell? ⟨w5.heap.size, 2, none⟩ = some (.slice (some ⟨g, 0, none⟩) n cap2) ∧ Below w12.heap.size w12 w')
          (first | go_keep | (go_split_ands; refine ⟨?_, ?_, ?_, ?_⟩ <;> first | assumption | (refine below_keep hB ?_; assumption) | (refine keep_below2 ?_ hB; assumption)))
          (first | (go_at_call 19; refine (fits_prog a b _ n cap2 (setOne c k s) _ HQC.out ha hb (by unfold In64; omega) hn2 hmx2 _ (HOq.out.pix.below (by first | assumption | (go_split_ands; assumption)))).mono ?_; rintro e w9 ⟨rfl, hB⟩) | (go_at_call 20; refine (fits_ref a b _ n cap2 (setOne c k s) _ HQC.out ha hb (by unfold In64; omega) hn2 hmx2 _ (HOq.out.pix.below (by first | assumption | (go_split_ands; assumption)))).mono ?_; rintro e w9 ⟨rfl, hB⟩))
        all_goals
          have KB : Below w12.heap.size w12 w9 := by first | assumption | (go_split_ands; assumption)
          go_wp2
          go_ret
          exact ⟨rfl, HW.out.trans (KB.mono HW.out.size)⟩
      | true =>
        have hy3t := H23.out rfl
        go_wp2_with fail
        refine (fits_prog a b _ n cap2 (setOne c k s) 3 HQC.out ha hb (by unfold In64; omega) hn2 hmx2 _ hO2.pix).mono ?_
        rintro e w13 ⟨rfl, hB⟩
        rw [q3, hy3t]
        clear kP_0 kP_1 kP_2 kQ_0 kQ_1 kQ_2
        replace bP := hp_below bP hB (Array.getElem?_eq_some_iff.1 bP).1
        replace bQ := hp_below bQ hB (Array.getElem?_eq_some_iff.1 bQ).1
        replace hO2 := hO2.below hB
        replace HW := Lib.hid (HW.out.trans (hB.mono HW.out.size))
        clear hB
        have kP_0 := hp_cell (j := 0) bP rfl
        have kP_1 := hp_cell (j := 1) bP rfl
        have kP_2 := hp_cell (j := 2) bP rfl
        have kQ_0 := hp_cell (j := 0) bQ rfl
        have kQ_1 := hp_cell (j := 1) bQ rfl
        have kQ_2 := hp_cell (j := 2) bQ rfl
        clear kP_0 kP_1 kP_2 kQ_0 kQ_1 kQ_2
        have kQ_0 := hp_cell (j := 0) bQ rfl
        have kQ_1 := hp_cell (j := 1) bQ rfl
        have kQ_2 := hp_cell (j := 2) bQ rfl
        have kB : Below w13.heap.size w13 w13.drew := (Below.refl _ _).drew
        have HOq := Lib.hid hO2
        clear hO2 bP bQ
        go_wp2_with fail
        go_region_held3 (fun w' => w'.cell? ⟨w5.heap.size, 0, none⟩ = some (.int .i64 a) ∧ w'.cell? ⟨w5.heap.size, 1, none⟩ = some (.int .i64 b) ∧ w'.cell? ⟨w5.heap.size, 2, none⟩ = some (.slice (some ⟨g, 0, none⟩) n cap2) ∧ Below w13.heap.size w13 w')
          (first | go_keep | (go_split_ands; refine ⟨?_, ?_, ?_, ?_⟩ <;> first | assumption | (refine below_keep hB ?_; assumption) | (refine keep_below2 ?_ hB; assumption)))
          (first | (go_at_call 19; refine (fits_prog a b _ n cap2 (setOne c k s) _ HQC.out ha hb (by unfold In64; omega) hn2 hmx2 _ (HOq.out.pix.below (by first | assumption | (go_split_ands; assumption)))).mono ?_; rintro e w9 ⟨rfl, hB⟩) | (go_at_call 20; refine (fits_ref a b _ n cap2 (setOne c k s) _ HQC.out ha hb (by unfold In64; omega) hn2 hmx2 _ (HOq.out.pix.below (by first | assumption | (go_split_ands; assumption)))).mono ?_; rintro e w9 ⟨rfl, hB⟩))
        all_goals
          have KB : Below w13.heap.size w13 w9 := by first | assumption | (go_split_ands; assumption)
          go_wp2
          go_ret
          exact ⟨rfl, HW.out.trans (KB.mono HW.out.size)⟩
    | true =>
      have hq3 := H3Q.out rfl
      obtain ⟨z, hz0⟩ : ∃ z, decide (s % 257 = 0) = z := ⟨_, rfl⟩
      have hts := HTS.out
      rw [hz0] at hts hq3
      have hzz : (z != z) = false := by simp
      clear hz0
      have HQ3 := Lib.hid hq3
      clear hq3
      go_wp2_with fail
      refine (fits_prog a b _ n cap2 (setOne c k s) 3 HQC.out ha hb (by unfold In64; omega) hn2 hmx2 _ hO2.pix).mono ?_
      rintro e w11 ⟨rfl, hB⟩
      rw [q3, HQ3.out]
      clear kP_0 kP_1 kP_2 kQ_0 kQ_1 kQ_2
      replace bP := hp_below bP hB (Array.getElem?_eq_some_iff.1 bP).1
      replace bQ := hp_below bQ hB (Array.getElem?_eq_some_iff.1 bQ).1
      replace hO2 := hO2.below hB
      replace HW := Lib.hid (HW.out.trans (hB.mono HW.out.size))
      clear hB
      have kP_0 := hp_cell (j := 0) bP rfl
      have kP_1 := hp_cell (j := 1) bP rfl
      have kP_2 := hp_cell (j := 2) bP rfl
      have kQ_0 := hp_cell (j := 0) bQ rfl
      have kQ_1 := hp_cell (j := 1) bQ rfl
      have kQ_2 := hp_cell (j := 2) bQ rfl
      go_wp2_with fail
      refine (fits_prog a b _ n cap2 (setOne c k s) 2 HQC.out ha hb (by unfold In64; omega) hn2 hmx2 _ hO2.pix).mono ?_
      rintro e w12 ⟨rfl, hB⟩
      rw [hy2]
      clear kP_0 kP_1 kP_2 kQ_0 kQ_1 kQ_2
      replace bP := hp_below bP hB (Array.getElem?_eq_some_iff.1 bP).1
      replace bQ := hp_below bQ hB (Array.getElem?_eq_some_iff.1 bQ).1
      replace hO2 := hO2.below hB
      replace HW := Lib.hid (HW.out.trans (hB.mono HW.out.size))
      clear hB
      have kP_0 := hp_cell (j := 0) bP rfl
      have kP_1 := hp_cell (j := 1) bP rfl
      have kP_2 := hp_cell (j := 2) bP rfl
      have kQ_0 := hp_cell (j := 0) bQ rfl
      have kQ_1 := hp_cell (j := 1) bQ rfl
      have kQ_2 := hp_cell (j := 2) bQ rfl
      cases y2 with
      | false =>
        clear kP_0 kP_1 kP_2 kQ_0 kQ_1 kQ_2
        have kQ_0 := hp_cell (j := 0) bQ rfl
        have kQ_1 := hp_cell (j := 1) bQ rfl
        have kQ_2 := hp_cell (j := 2) bQ rfl
        have kB : Below w12.heap.size w12 w12.drew := (Below.refl _ _).drew
        have HOq := Lib.hid hO2
        clear hO2 bP bQ
        go_wp2_with fail
        go_region_held3 (fun w' => w'.cell? ⟨w5.heap.size, 0, none⟩ = some (.int .i64 a) ∧ w'.cell? ⟨w5.heap.size, 1, none⟩ = some (.int .i64 b) ∧ w'.cell? ⟨w5.heap.size, 2, none⟩ = some (.slice (some ⟨g, 0, none⟩) n cap2) ∧ Below w12.heap.size w12 w')
          (first | go_keep | (go_split_ands; refine ⟨?_, ?_, ?_, ?_⟩ <;> first | assumption | (refine below_keep hB ?_; assumption) | (refine keep_below2 ?_ hB; assumption)))
          (first | (go_at_call 19; refine (fits_prog a b _ n cap2 (setOne c k s) _ HQC.out ha hb (by unfold In64; omega) hn2 hmx2 _ (HOq.out.pix.below (by first | assumption | (go_split_ands; assumption)))).mono ?_; rintro e w9 ⟨rfl, hB⟩) | (go_at_call 20; refine (fits_ref a b _ n cap2 (setOne c k s) _ HQC.out ha hb (by unfold In64; omega) hn2 hmx2 _ (HOq.out.pix.below (by first | assumption | (go_split_ands; assumption)))).mono ?_; rintro e w9 ⟨rfl, hB⟩))
        all_goals
          have KB : Below w12.heap.size w12 w9 := by first | assumption | (go_split_ands; assumption)
          go_wp2
          go_ret
          exact ⟨rfl, HW.out.trans (KB.mono HW.out.size)⟩
      | true =>
        have hy3t := H23.out rfl
        go_wp2_with fail
        refine (fits_prog a b _ n cap2 (setOne c k s) 3 HQC.out ha hb (by unfold In64; omega) hn2 hmx2 _ hO2.pix).mono ?_
        rintro e w13 ⟨rfl, hB⟩
        rw [q3, hy3t]
        clear kP_0 kP_1 kP_2 kQ_0 kQ_1 kQ_2
        replace bP := hp_below bP hB (Array.getElem?_eq_some_iff.1 bP).1
        replace bQ := hp_below bQ hB (Array.getElem?_eq_some_iff.1 bQ).1
        replace hO2 := hO2.below hB
        replace HW := Lib.hid (HW.out.trans (hB.mono HW.out.size))
        clear hB
        have kP_0 := hp_cell (j := 0) bP rfl
        have kP_1 := hp_cell (j := 1) bP rfl
        have kP_2 := hp_cell (j := 2) bP rfl
        have kQ_0 := hp_cell (j := 0) bQ rfl
        have kQ_1 := hp_cell (j := 1) bQ rfl
        have kQ_2 := hp_cell (j := 2) bQ rfl
        clear kP_0 kP_1 kP_2 kQ_0 kQ_1 kQ_2
        have kQ_0 := hp_cell (j := 0) bQ rfl
        have kQ_1 := hp_cell (j := 1) bQ rfl
        have kQ_2 := hp_cell (j := 2) bQ rfl
        have kB : Below w13.heap.size w13 w13.drew := (Below.refl _ _).drew
        have HOq := Lib.hid hO2
        clear hO2 bP bQ
        go_wp2_with fail
        go_region_held3 (fun w' => w'.cell? ⟨w5.heap.size, 0, none⟩ = some (.int .i64 a) ∧ w'.cell? ⟨w5.heap.size, 1, none⟩ = some (.int .i64 b) ∧ w'.cell? ⟨w5.heap.size, 2, none⟩ = some (.slice (some ⟨g, 0, none⟩) n cap2) ∧ Below w13.heap.size w13 w')
          (first | go_keep | (go_split_ands; refine ⟨?_, ?_, ?_, ?_⟩ <;> first | assumption | (refine below_keep hB ?_; assumption) | (refine keep_below2 ?_ hB; assumption)))
          (first | (go_at_call 19; refine (fits_prog a b _ n cap2 (setOne c k s) _ HQC.out ha hb (by unfold In64; omega) hn2 hmx2 _ (HOq.out.pix.below (by first | assumption | (go_split_ands; assumption)))).mono ?_; rintro e w9 ⟨rfl, hB⟩) | (go_at_call 20; refine (fits_ref a b _ n cap2 (setOne c k s) _ HQC.out ha hb (by unfold In64; omega) hn2 hmx2 _ (HOq.out.pix.below (by first | assumption | (go_split_ands; assumption)))).mono ?_; rintro e w9 ⟨rfl, hB⟩))
        all_goals
          have KB : Below w13.heap.size w13 w9 := by first | assumption | (go_split_ands; assumption)
          go_wp2
          go_ret
          exact ⟨rfl, HW.out.trans (KB.mono HW.out.size)⟩
end Go.Proofs.Ytpfpfklmmcejbaa
