/- PaletteBack: the walk. -/
import Derived.Test.YtnjlklcggcfcgaaPlBk
namespace Go.Proofs.Ytnjlklcggcfcgaa
set_option linter.unusedVariables false
open Go.ChangeShapes Go.WideShapes Go.ChangeAt Go.RowKit

theorem wrap_small {x : Nat} (h : x ≤ 100000) : wrap64 (x : Int) = (x : Int) := IntWalk.wrap64_in _ (by omega)
theorem ne_beq {x y : Nat} (h : ¬x = y) : ((x : Int) == (y : Int)) = false := by rw [beq_eq_false_iff_ne]; omega
theorem sn {a b : Nat} (h : b = a + 1) : Value.int .i64 ((a : Int) + 1) = Value.int .i64 (b : Nat) := by subst h; simp
theorem meas {N i : Nat} (h : i < N) : N - (intOf (.int .i64 ((i : Int) + 1))).toNat < N - (intOf (.int .i64 (i : Nat))).toNat := by simp [intOf]; omega
set_option maxRecDepth 100000 in
set_option maxHeartbeats 400000 in
theorem back_walk (a b : Int) (A : Option Addr) (n cap : Nat) (c : Nat → Nat) (hc : ∀ i, c i < 65536) (ha : In64 a) (hb : In64 b) (hn : n ≤ cap) (hmax : cap ≤ maxLen) (w : World) (hP : Pix w A n c) :
    Calls Try.prog 5 #[.agg #[.int .i64 a, .int .i64 b, .slice A n cap]] w fun e w' => e = .returned (.bool true) ∧ Below w.heap.size w w' := by
  have HC := Lib.hid hc
  clear hc
  have HW := Lib.hid (Below.refl w.heap.size w)
  have bP := hp_new0 (w) (.cells #[.int .i64 a, .int .i64 b, .slice A n cap] 24)
  replace hP := hP.below ((Below.refl _ (w)).alloc (Nat.le_refl _) (.cells #[.int .i64 a, .int .i64 b, .slice A n cap] 24))
  replace HW := Lib.hid (HW.out.alloc HW.out.size (.cells #[.int .i64 a, .int .i64 b, .slice A n cap] 24))
  go_enter Try.func5, Try.ntmps5
  go_wp2_with fail
  refine (awake10 _).mono ?_
  rintro e w1 ⟨rfl, hB⟩
  replace bP := hp_below bP hB (Array.getElem?_eq_some_iff.1 bP).1
  replace hP := hP.below hB
  replace HW := Lib.hid (HW.out.trans (hB.mono HW.out.size))
  clear hB
  have kP_0 := hp_cell (j := 0) bP rfl
  have kP_1 := hp_cell (j := 1) bP rfl
  have kP_2 := hp_cell (j := 2) bP rfl
  unfold maxLen at hmax
  by_cases h8 : 8000 < n
  · have t8 : decide ((8000 : Int) < (n : Int)) = true := by simp; omega
    go_wp2
    go_ret
    exact ⟨rfl, HW.out⟩
  have t8 : decide ((8000 : Int) < (n : Int)) = false := by simp; omega
  cases hf : fitsB a b n c 2 with
  | false =>
    have HF := Lib.hid hf
    clear hf
    go_wp2_with fail
    refine (make_no a b A n cap c HC.out ha hb HF.out hn (by unfold maxLen; omega) _ hP).mono ?_
    rintro e w2 ⟨rfl, hB⟩
    clear kP_0 kP_1 kP_2
    replace bP := hp_below bP hB (Array.getElem?_eq_some_iff.1 bP).1
    replace hP := hP.below hB
    replace HW := Lib.hid (HW.out.trans (hB.mono HW.out.size))
    clear hB
    replace bP := hp_alloc (.cells #[.slice none 0 0, .int .i64 0] 28) bP
    have bQ := hp_new0 (w2) (.cells #[.slice none 0 0, .int .i64 0] 28)
    replace hP := hP.below ((Below.refl _ (w2)).alloc (Nat.le_refl _) (.cells #[.slice none 0 0, .int .i64 0] 28))
    replace HW := Lib.hid (HW.out.alloc HW.out.size (.cells #[.slice none 0 0, .int .i64 0] 28))
    have kP_0 := hp_cell (j := 0) bP rfl
    have kP_1 := hp_cell (j := 1) bP rfl
    have kP_2 := hp_cell (j := 2) bP rfl
    have kQ_0 := hp_cell (j := 0) bQ rfl
    have kQ_1 := hp_cell (j := 1) bQ rfl
    go_wp2
    go_ret
    exact ⟨rfl, HW.out⟩
  | true =>
    have hm0 := fits_may hf
    obtain ⟨a1, b1, N, e1, e2, rfl, hN1, hN2, e3⟩ := may_nat hm0
    clear e1 e2 e3 a1 b1
    obtain ⟨hmy, hok, h257, hU⟩ := fit_ok HC.out hf
    clear h257
    have HF := Lib.hid hf
    have HM := Lib.hid hmy
    have HOK := Lib.hid hok
    clear hf hm0 hmy hok
    have t8b : decide ((8000 : Int) < 4 * (N : Int)) = false := by simp; omega
    obtain ⟨bk, off, rfl, hbk, hcl⟩ := hP (by omega)
    have HP2 := Lib.hid hcl
    clear hcl
    go_wp2_with fail
    refine (make_yes a b bk off cap c HC.out N ha hb HF.out hN1 hN2 hn (by unfold maxLen; omega) _ hbk HP2.out).mono ?_
    rintro e w2 ⟨⟨v, u, rfl, hv, hu⟩, hB⟩
    clear kP_0 kP_1 kP_2
    replace bP := hp_below bP hB (Array.getElem?_eq_some_iff.1 bP).1
    replace hP := hP.below hB
    replace HW := Lib.hid (HW.out.trans (hB.mono HW.out.size))
    clear hB
    clear hbk
    have HE := Lib.hid (drawE_back HM.out hU)
    have HS := Lib.hid (same_back HM.out hU)
    have HN := Lib.hid (U_nodup c N)
    have HPL := Lib.hid (fun i (hi : i < N) => place (c := c) hi hU)
    have HSE := Lib.hid (fun i => U_seen (c := c) (i := i))
    have HAL := Lib.hid (fun q (hq : q ∈ U c N) => U_alpha HOK.out hq)
    obtain ⟨L, hL⟩ : ∃ L, L = U c N := ⟨_, rfl⟩
    rw [← hL] at hv hU HE HS HN HAL ⊢
    have HL := Lib.hid hL
    clear hL
    obtain ⟨Av, cv, rfl, hv1, hv2, hV⟩ := sl_of_own hv
    obtain ⟨Au, cu, rfl, hu1, hu2, hU8⟩ := byt_of_own hu
    clear hv hu
    replace bP := hp_alloc (.cells #[.slice Av L.length cv, .int .i64 (clearIx L)] 28) bP
    have bQ := hp_new0 (w2) (.cells #[.slice Av L.length cv, .int .i64 (clearIx L)] 28)
    replace hP := hP.below ((Below.refl _ (w2)).alloc (Nat.le_refl _) (.cells #[.slice Av L.length cv, .int .i64 (clearIx L)] 28))
    replace hV := hV.below ((Below.refl _ (w2)).alloc (Nat.le_refl _) (.cells #[.slice Av L.length cv, .int .i64 (clearIx L)] 28))
    replace hU8 := hU8.below ((Below.refl _ (w2)).alloc (Nat.le_refl _) (.cells #[.slice Av L.length cv, .int .i64 (clearIx L)] 28))
    replace HW := Lib.hid (HW.out.alloc HW.out.size (.cells #[.slice Av L.length cv, .int .i64 (clearIx L)] 28))
    have kP_0 := hp_cell (j := 0) bP rfl
    have kP_1 := hp_cell (j := 1) bP rfl
    have kP_2 := hp_cell (j := 2) bP rfl
    have kQ_0 := hp_cell (j := 0) bQ rfl
    have kQ_1 := hp_cell (j := 1) bQ rfl
    go_wp2_with fail
    refine (draw_prog a b Av cv (clearIx L) L Au N cu (byteAt (pl c N)) ha hb (by omega) (byteAt_lt _) hu1 hu2 _ hV hU8).mono ?_
    rintro e w3 ⟨⟨z1, z2, A3, cap3, rfl, hN⟩ | ⟨h, _⟩, hB⟩
    rotate_left
    · exact absurd HE.out h
    clear z1 z2
    clear kP_0 kP_1 kP_2 kQ_0 kQ_1
    replace bP := hp_below bP hB (Array.getElem?_eq_some_iff.1 bP).1
    replace bQ := hp_below bQ hB (Array.getElem?_eq_some_iff.1 bQ).1
    replace hP := hP.below hB
    replace hV := hV.below hB
    replace hU8 := hU8.below hB
    replace HW := Lib.hid (HW.out.trans (hB.mono HW.out.size))
    clear hB
    obtain ⟨hn3, hm3, hz3, hO⟩ := hN
    replace bP := hp_alloc (.cells #[.int .i64 a, .int .i64 b, .slice A3 (4 * N) cap3] 24) bP
    replace bQ := hp_alloc (.cells #[.int .i64 a, .int .i64 b, .slice A3 (4 * N) cap3] 24) bQ
    have bS := hp_new0 (w3) (.cells #[.int .i64 a, .int .i64 b, .slice A3 (4 * N) cap3] 24)
    replace hP := hP.below ((Below.refl _ (w3)).alloc (Nat.le_refl _) (.cells #[.int .i64 a, .int .i64 b, .slice A3 (4 * N) cap3] 24))
    replace hV := hV.below ((Below.refl _ (w3)).alloc (Nat.le_refl _) (.cells #[.int .i64 a, .int .i64 b, .slice A3 (4 * N) cap3] 24))
    replace hU8 := hU8.below ((Below.refl _ (w3)).alloc (Nat.le_refl _) (.cells #[.int .i64 a, .int .i64 b, .slice A3 (4 * N) cap3] 24))
    replace hO := hO.below ((Below.refl _ (w3)).alloc (Nat.le_refl _) (.cells #[.int .i64 a, .int .i64 b, .slice A3 (4 * N) cap3] 24))
    replace HW := Lib.hid (HW.out.alloc HW.out.size (.cells #[.int .i64 a, .int .i64 b, .slice A3 (4 * N) cap3] 24))
    have kP_0 := hp_cell (j := 0) bP rfl
    have kP_1 := hp_cell (j := 1) bP rfl
    have kP_2 := hp_cell (j := 2) bP rfl
    have kQ_0 := hp_cell (j := 0) bQ rfl
    have kQ_1 := hp_cell (j := 1) bQ rfl
    have kS_0 := hp_cell (j := 0) bS rfl
    have kS_1 := hp_cell (j := 1) bS rfl
    have kS_2 := hp_cell (j := 2) bS rfl
    unfold maxLen at hv2 hu2
    go_wp2_with fail
    clear kP_0 kP_1 kP_2 kQ_0 kQ_1 kS_0 kS_1 kS_2
    generalize hwo : (w3).alloc (.cells #[.int .i64 a, .int .i64 b, .slice A3 (4 * N) cap3] 24) = wo at *
    clear hwo
    obtain ⟨s2, hs2⟩ : ∃ s, s = w2.heap.size := ⟨_, rfl⟩
    go_loopw [8, 9] (fun s x wr => ∃ i : Nat, i ≤ N ∧ x = .int .i64 i ∧ s = .int .i64 ((U c i).length : Nat) ∧ Below wo.heap.size wo wr) (fun _ x _ => N - (intOf x).toNat)
    case atStart => exact ⟨0, by omega, rfl, rfl, Below.refl _ _⟩
    case round =>
      obtain ⟨i, hi, rfl, rfl, hB⟩ := hrel
      by_cases hlt : i < N
      · obtain ⟨gb, go, he, hgl, hgc⟩ := (hU8.below hB) (by omega)
        subst he
        have c0 := hgc i hlt
        rw [HPL.out i hlt] at c0
        have hse := HSE.out i
        have hUl := U_le c i
        have hwr := wrap_small (x := (U c i).idxOf (p4 c i)) (Nat.le_trans hse.1 (Nat.le_trans hUl (Nat.le_trans hi (Nat.le_trans hN2 (by decide)))))
        have tgt : decide (((U c i).length : Int) < (((U c i).idxOf (p4 c i) : Nat) : Int)) = false := by have := hse.1; simp; omega
        have tgt2 : ¬((U c i).length < (U c i).idxOf (p4 c i)) := Nat.not_lt.2 hse.1
        have tgt3 : decide ((U c i).length < (U c i).idxOf (p4 c i)) = false := decide_eq_false tgt2
        have hse2 := hse.2
        by_cases hq : (U c i).idxOf (p4 c i) = (U c i).length
        · have hle := Nat.le_trans hUl (Nat.le_trans hi (Nat.le_trans hN2 (by decide : 16384 ≤ 99999)))
          have hwr2 := wrap_small (x := (U c i).length) (Nat.le_succ_of_le hle)
          have hwr3 : wrap64 (((U c i).length : Int) + 1) = ((U c i).length : Int) + 1 := wrap_small (x := (U c i).length + 1) (Nat.succ_le_succ hle)
          rw [if_pos hq] at hse2
          have HS2 := Lib.hid hse2
          have teq : ((((U c i).idxOf (p4 c i) : Nat) : Int) == ((U c i).length : Int)) = true := beq_iff_eq.2 (by rw [hq])
          clear hgc hse hse2 hUl hle
          go_wp2_with fail
          go_roundw
          case rel => exact ⟨i + 1, hlt, sn rfl, by rw [hwr3]; exact sn HS2.out, hB⟩
          case measure => exact meas hlt
        · rw [if_neg hq] at hse2
          have HS2 := Lib.hid hse2
          have teq : ((((U c i).idxOf (p4 c i) : Nat) : Int) == ((U c i).length : Int)) = false := ne_beq hq
          clear hgc hse hse2 hUl
          go_wp2_with fail
          go_roundw
          case rel => exact ⟨i + 1, hlt, sn rfl, by rw [HS2.out], hB⟩
          case measure => exact meas hlt
      · obtain rfl : N = i := by omega
        rw [← HL.out] at *
        replace bP := hp_below bP hB (lt_heap bP)
        replace bQ := hp_below bQ hB (lt_heap bQ)
        replace bS := hp_below bS hB (lt_heap bS)
        replace hP := hP.below hB
        replace hV := hV.below hB
        replace hO := hO.below hB
        replace HW := Lib.hid (HW.out.trans (hB.mono HW.out.size))
        clear hB hi hlt hU8
        have kP_0 := hp_cell (j := 0) bP rfl
        have kP_1 := hp_cell (j := 1) bP rfl
        have kP_2 := hp_cell (j := 2) bP rfl
        have kQ_0 := hp_cell (j := 0) bQ rfl
        have kQ_1 := hp_cell (j := 1) bQ rfl
        have kS_0 := hp_cell (j := 0) bS rfl
        have kS_1 := hp_cell (j := 1) bS rfl
        have kS_2 := hp_cell (j := 2) bS rfl
        rw [← HL.out]
        go_wp2_with fail
        clear kP_0 kP_1 kP_2 kQ_0 kQ_1 kS_0 kS_1 kS_2
        generalize hw3 : wr = wq at *
        clear hw3
        go_loopw [10] (fun x wr => ∃ i : Nat, i ≤ L.length ∧ x = .int .i64 i ∧ Below wq.heap.size wq wr) (fun x _ => L.length - (intOf x).toNat)
        case atStart => exact ⟨0, by omega, rfl, Below.refl _ _⟩
        case round =>
          obtain ⟨i, hi, rfl, hB⟩ := hrel
          have bQ2 := hp_below bQ hB (lt_heap bQ)
          have kq0 := hp_cell (j := 0) bQ2 rfl
          have kq1 := hp_cell (j := 1) bQ2 rfl
          by_cases hlt : i < L.length
          · obtain ⟨q, hq⟩ : ∃ q, L[i]? = some q := ⟨L[i], List.getElem?_eq_getElem hlt⟩
            obtain ⟨gb, go, he, hgl, hgc⟩ := (hV.below hB).cell (by omega)
            subst he
            have HGC := Lib.hid hgc
            have HQ := Lib.hid hq
            clear hgc hq
            go_wp2_with fail
            generalize hw4 : wr = wi at *
            clear hw4
            go_loopw [11] (fun x wr => ∃ k : Nat, k ≤ i ∧ x = .int .i64 k ∧ Below wi.heap.size wi wr) (fun x _ => i - (intOf x).toNat)
            case atStart => exact ⟨0, by omega, rfl, Below.refl _ _⟩
            case round =>
              obtain ⟨k, hk, rfl, hB2⟩ := hrel
              have bQ3 := hp_below bQ2 hB2 (lt_heap bQ2)
              clear kq0 kq1
              have kq0 := hp_cell (j := 0) bQ3 rfl
              have kq1 := hp_cell (j := 1) bQ3 rfl
              have hqc : ∀ x p j, L[x]? = some p → j < 4 → wr.cell? ⟨gb, go + x * 4 + j, none⟩ = (cP p)[j]? := fun x p j hp hj => by
                have hx := (List.getElem?_eq_some_iff.1 hp).1
                have h1 := (hB2.cell (p := ⟨gb, go + (x * 4 + j), none⟩) hgl).trans (HGC.out (x * 4 + j) (by omega))
                rw [Nat.add_assoc, h1, cellsP_get L x p hp j hj]
              have c0 : wr.cell? ⟨gb, go + i * 4, none⟩ = some (.int .u16 (q.1 : Nat)) := hqc i q 0 HQ.out (by omega)
              have c1 : wr.cell? ⟨gb, go + i * 4 + 1, none⟩ = some (.int .u16 (q.2.1 : Nat)) := hqc i q 1 HQ.out (by omega)
              have c2 : wr.cell? ⟨gb, go + i * 4 + 2, none⟩ = some (.int .u16 (q.2.2.1 : Nat)) := hqc i q 2 HQ.out (by omega)
              have c3 : wr.cell? ⟨gb, go + i * 4 + 3, none⟩ = some (.int .u16 (q.2.2.2 : Nat)) := hqc i q 3 HQ.out (by omega)
              by_cases hlk : k < i
              · obtain ⟨p, hp⟩ : ∃ p, L[k]? = some p := ⟨L[k], List.getElem?_eq_getElem (by omega)⟩
                have d0 : wr.cell? ⟨gb, go + k * 4, none⟩ = some (.int .u16 (p.1 : Nat)) := hqc k p 0 hp (by omega)
                have d1 : wr.cell? ⟨gb, go + k * 4 + 1, none⟩ = some (.int .u16 (p.2.1 : Nat)) := hqc k p 1 hp (by omega)
                have d2 : wr.cell? ⟨gb, go + k * 4 + 2, none⟩ = some (.int .u16 (p.2.2.1 : Nat)) := hqc k p 2 hp (by omega)
                have d3 : wr.cell? ⟨gb, go + k * 4 + 3, none⟩ = some (.int .u16 (p.2.2.2 : Nat)) := hqc k p 3 hp (by omega)
                have hE := fun W => run_eqP q p W
                rw [show decide (q = p) = false from by simpa using U_ne HN.out HQ.out hp hlk] at hE
                have HQC := Lib.hid hqc
                have hki : decide (k < i) = true := by simpa using hlk
                have hkL : k < L.length := by omega
                clear hqc hp
                go_wp2_with fail
                go_quiet (fail)
                go_wp2_with fail
                go_roundw
                case rel => exact ⟨k + 1, by omega, by go_num, below_drewN hB2 _⟩
                case measure => simp [intOf]; omega
              · obtain rfl : k = i := by omega
                have hal := HAL.out q (List.mem_of_getElem? HQ.out)
                have hcl := clear_at HN.out HQ.out
                have tne : (((q.2.2.2 : Nat) : Int) == 0) = ((k : Int) == clearIx L) := by
                  rw [Bool.eq_iff_iff, beq_iff_eq, beq_iff_eq, hcl, ← hal]
                  omega
                obtain ⟨t, ht⟩ : ∃ t, ((k : Int) == clearIx L) = t := ⟨_, rfl⟩
                rw [ht] at tne
                have tt : (t == t) = true := by simp
                have HQC := Lib.hid hqc
                clear hqc hal hcl
                go_wp2_with fail
                go_quiet (fail)
                go_wp2_with fail
                go_roundw
                case rel => exact ⟨k + 1, by omega, by go_num, hB.trans ((below_drewN hB2 _).mono hB.size)⟩
                case measure => simp [intOf]; omega
          · obtain rfl : i = L.length := by omega
            replace bP := hp_below bP hB (lt_heap bP)
            replace bS := hp_below bS hB (lt_heap bS)
            replace hP := hP.below hB
            replace hO := hO.below hB
            replace HW := Lib.hid (HW.out.trans (hB.mono HW.out.size))
            clear hB hi hlt
            have kP_0 := hp_cell (j := 0) bP rfl
            have kP_1 := hp_cell (j := 1) bP rfl
            have kP_2 := hp_cell (j := 2) bP rfl
            have kS_0 := hp_cell (j := 0) bS rfl
            have kS_1 := hp_cell (j := 1) bS rfl
            have kS_2 := hp_cell (j := 2) bS rfl
            have eLL : ((L.length : Int) == (L.length : Int)) = true := by simp
            go_wp2_with fail
            refine (same_ref a b A3 (4 * N) cap3 _ a b (some ⟨bk, off, none⟩) (4 * N) cap c ha hb ha hb hn3 hm3 hn (by unfold maxLen; omega) _ hO.pix hP).mono ?_
            rintro e w5 ⟨rfl, hB5⟩
            rw [HS.out]
            have bQ5 := hp_below bQ2 hB5 (lt_heap bQ2)
            clear kq0 kq1
            have kq0 := hp_cell (j := 0) bQ5 rfl
            have kq1 := hp_cell (j := 1) bQ5 rfl
            go_wp2
            go_ret
            exact ⟨rfl, HW.out.trans (hB5.mono HW.out.size)⟩
end Go.Proofs.Ytnjlklcggcfcgaa
