/- The reference's reader of GIF's codes: ReadLzw. The table of a writer of GIF's codes: a map by rows. A writer of GIF's codes in memory; put, clear. A writer of GIF's codes: put, clear, add. A writer of GIF's codes that has no table yet: clear. lzw.Write. lzw.Write: what may not be written. Layer 7's awake. LzwReads: the walk. -/
import Derived.Test.YtkjlejkcedemlaaM8
import Derived.Maps.Own
import Derived.Maps.OwnOps
import Derived.Maps.OwnSet
import Derived.Maps.Views
import Derived.DeepKeys4
import Derived.Deep.LoopGhost
namespace Go.Proofs.Ytkjlejkcedemlaa
set_option maxRecDepth 100000
set_option linter.unusedVariables false
open Go.ChangeShapes Go.WideShapes Go.ChangeAt Go.RowKit

theorem info22 : (Try.prog.info? 22).map (fun i => (i.zero, i.size, i.bytes)) = some (some (.slice none 0 0), 1, 24) := by kernel_rfl
theorem NewB.nil0 {B : Nat} {w : World} : NewB B w ([] : List Nat).length none 0 (gz []) := ⟨Nat.le_refl _, by simp [maxLen], fun _ => rfl, (fun h => by simp at h), (fun a h => by cases h), (fun a h => by cases h), (fun a h => by cases h)⟩
def SwAt (w1 : World) (X : List Nat) (row : List Nat) (s16 : Value) (wx : World) : Prop := RowV wx X s16 row ∧ Below w1.heap.size w1 wx
theorem row_forms {cl : Nat} {rows : List (List Nat)} {last : Option (List Nat)} {c : Nat} (hb : badC cl rows last c = false) (h1 : ¬ c = cl) (h2 : ¬ c = cl + 1) :
    (c < cl ∧ rowC cl rows last c = [c]) ∨ (¬ c < cl ∧ c = cl + 2 + rows.length ∧ ∃ l0, last = some l0 ∧ rowC cl rows last c = l0 ++ [l0.headD 0]) ∨ (¬ c < cl ∧ c < cl + 2 + rows.length ∧ ∃ l0 i, last = some l0 ∧ c = cl + 2 + i ∧ rows[i]? = some (rowC cl rows last c)) := by
  unfold badC at hb
  by_cases h3 : c < cl
  · exact .inl ⟨h3, by unfold rowC; rw [if_pos h3]⟩
  · simp [h3] at hb
    obtain ⟨l0, hl⟩ : ∃ l0, last = some l0 := by
      cases last with
      | none => simp at hb
      | some l => exact ⟨l, rfl⟩
    subst hl
    simp at hb
    by_cases h4 : c = cl + 2 + rows.length
    · exact .inr (.inl ⟨h3, h4, l0, rfl, by unfold rowC; rw [if_neg h3, if_pos h4]; rfl⟩)
    · refine .inr (.inr ⟨h3, by omega, l0, c - cl - 2, rfl, by omega, ?_⟩)
      unfold rowC
      rw [if_neg h3, if_neg h4, List.getElem?_eq_getElem (by omega)]
      rfl
theorem rowV_one (w : World) (X : List Nat) (c : Nat) (hX : ∀ k ∈ X, k < w.heap.size) : RowV (w.alloc (.cells #[.int .u8 (c : Nat)] 5)) X (.slice (some ⟨w.heap.size, 0, none⟩) 1 1) [c] :=
  ⟨_, _, rfl, Nat.le_refl _, by simp [maxLen], fun _ => ⟨_, 0, rfl, by simp, fun j hj => by
    have hj : j < 1 := hj
    obtain rfl : j = 0 := by omega
    exact hp_cell (j := 0) (hp_new0 w _) rfl⟩, fun h => absurd (hX _ h) (Nat.lt_irrefl _), by simp⟩
/-- Behind a row more. -/
def RowsAt (w0 : World) (gm : Nat) (A : Option Addr) (n cap : Nat) (b : Nat → Nat) (cl sz : Nat) (s : Cz) (v10 v12 v13 v16 : Value) (row : List Nat) (w : World) : Prop := ∃ X, Rz w0 gm A n cap b cl sz s v10 v12 v13 X w ∧ RowV w X v16 row
/-- A round of the reference. -/
def RfR (w0 : World) (gm : Nat) (A : Option Addr) (n cap : Nat) (b : Nat → Nat) (cl sz most : Nat) (r : List Nat × Nat) (k : Nat) (v10 v11 v12 v13 : Value) (w : World) : Prop :=
  ∃ s X, v11 = .int .i64 (s.wd : Nat) ∧ Rz w0 gm A n cap b cl sz s v10 v12 v13 X w ∧ 8 * n - s.p < k ∧ finC b n cl sz most k s = r ∧ s.out.length ≤ most
set_option maxRecDepth 100000 in
set_option maxHeartbeats 4000000 in
theorem read_ref (A : Option Addr) (n cap : Nat) (b : Nat → Nat) (hbt : ∀ i, b i < 256) (hn : n ≤ cap) (hmax : cap ≤ maxLen) (hz : A = none → cap = 0) (hsmall : n ≤ 1000000) (size most : Int) (hmost : most ≤ 1000000) (w : World) (hP : Byt w A n b) :
    Calls Try.prog 41 #[.slice A n cap, .int .i64 size, .int .i64 most] w fun e w' => ∃ A' cap', e = .returned (.tuple #[.slice A' (lzwV b n size most).1.length cap', .int .i64 ((lzwV b n size most).2 : Nat)]) ∧ NewB w.heap.size w' (lzwV b n size most).1.length A' cap' (gz (lzwV b n size most).1) ∧ Below w.heap.size w w' := by
  obtain ⟨i0, hi, hz0, hz1, hz2⟩ := info_parts info8
  obtain ⟨i1, hi1, hy0, hy1, hy2⟩ := info_parts info22
  by_cases hm : mayZ size most = true
  · obtain ⟨sz, rfl⟩ : ∃ k : Nat, size = k := Int.eq_ofNat_of_zero_le (by unfold mayZ at hm; simp at hm; omega)
    obtain ⟨mo, rfl⟩ : ∃ k : Nat, most = k := Int.eq_ofNat_of_zero_le (by unfold mayZ at hm; simp at hm; omega)
    have h1 : 2 ≤ sz := by unfold mayZ at hm; simp at hm; omega
    have h2 : sz ≤ 8 := by unfold mayZ at hm; simp at hm; omega
    obtain ⟨r, hr⟩ : ∃ r, r = lzwV b n sz mo := ⟨_, rfl⟩
    rw [← hr]
    rw [lzwV_yes b n sz mo h1 h2] at hr
    have hgood := good0 n sz h1 h2
    obtain ⟨cl, hcl⟩ : ∃ cl, cl = 2 ^ sz := ⟨_, rfl⟩
    rw [← hcl] at hr hgood
    have hc256 : 4 ≤ cl ∧ cl ≤ 256 := cl_le hgood
    have hwp : wrap64 ((2 : Int) ^ sz) = (cl : Int) := by rw [wrap_pow sz (by omega), hcl]
    have HCL := Lib.hid hcl
    have hRf : Rf w.heap.size A n cap b 0 false false (w.alloc (.cells #[.slice A n cap, .int .i64 0, .bool false, .bool false] 93)) :=
      ⟨hp_new0 _ _, hP.below ((Below.refl _ _).alloc (Nat.le_refl _) _), fun h0 a ha hm => by
        obtain ⟨bk, off, he, hlt, _⟩ := hP h0
        rw [ha] at he
        cases he
        simp at hm
        omega⟩
    have h0 : RfR w w.heap.size A n cap b cl sz mo r (8 * n + 1) (.slice none 0 0) (.int .i64 ((sz : Int) + 1)) (.slice none 0 0) (.slice none 0 0) (w.alloc (.cells #[.slice A n cap, .int .i64 0, .bool false, .bool false] 93)) :=
      ⟨cz0 sz, [w.heap.size], rfl, ⟨hRf, ⟨[], World.ownsRow_nil _ _ _ _, fun i v l hi => by simp at hi⟩, fun _ => rfl, (fun l h => by cases h), World.ownsRow_nil _ _ _ _, (fun k h => by cases h), by simp, (fun k h => by cases h), (fun k h => by cases h), fun k hk => by simp at hk; simp [hk], fun h0 a ha => by
        obtain ⟨bk, off, he, hlt, _⟩ := hP h0
        rw [ha] at he
        cases he
        exact hlt, Nat.le_refl _, (Below.refl _ _).alloc (Nat.le_refl _) _, hgood⟩, by simp [cz0], hr.symm, by simp [cz0]⟩
    have H0 := Lib.hid h0
    have d1 : decide ((sz : Int) < 2) = false := by simp; omega
    have d2 : decide (8 < (sz : Int)) = false := by simp; omega
    have d3 : decide ((mo : Int) < 0) = false := by simp
    clear h0 hRf hr hcl hP hm
    go_enter Try.func41, Try.ntmps41
    go_wp2_with fail
    rw [hwp]
    clear hwp
    go_loopg [10, 11, 12, 13] (8 * n + 1) (fun k v10 v11 v12 v13 wr => RfR w w.heap.size A n cap b cl sz mo r k v10 v11 v12 v13 wr)
    case atStart => exact H0.out
    case round =>
      obtain ⟨s, X, rfl, hR, hk, hfin, hom⟩ := hrel
      obtain ⟨k, rfl⟩ : ∃ j, gk = j + 1 := ⟨gk - 1, by omega⟩
      rw [finC] at hfin
      have hgd := hR.good
      have hwd1 := hgd.wd1
      have hwd2 := hgd.wd2
      have hpp := hgd.p
      have hgx := (hR.xl _ hR.x0).2
      have HR := Lib.hid hR
      have hrf := hR.rf
      clear hR
      by_cases he : 8 * n < s.p + s.wd
      · rw [if_pos he] at hfin
        have hask : askB (s.wd : Nat) (8 * n - s.p) = false := by unfold askB; simp; omega
        have HF := Lib.hid hfin
        clear hfin
        go_wp2_with fail
        refine (take_ref_no w.heap.size A n cap b s.p false false hsmall hpp (s.wd : Nat) hask _ hrf).mono ?_
        rintro e w1 ⟨rfl, hC, hrf1⟩
        have HB := Lib.hid (bel_ofX HR.out.bel hC (by simp))
        clear hC hrf1
        go_wp2
        go_ret2
        rw [← HF.out]
        exact ⟨none, 0, rfl, NewB.nil0, HB.out⟩
      · rw [if_neg he] at hfin
        have hle : s.p + s.wd ≤ 8 * n := by omega
        have hask : askB (s.wd : Nat) (8 * n - s.p) = true := by unfold askB; simp; omega
        obtain ⟨c, hc⟩ : ∃ c, c = takeL b s.p s.wd := ⟨_, rfl⟩
        have hc4 : c < 4096 := by rw [hc]; exact takeL_lt12 _ _ hwd2
        rw [← hc] at hfin
        have htb : takeB false b s.p s.wd = c := by rw [hc]; rfl
        have HF := Lib.hid hfin
        have HT := Lib.hid htb
        have HC := Lib.hid hc
        clear hfin htb hc
        go_wp2_with fail
        refine (take_refL w.heap.size A n cap b s.p false hsmall hpp hbt s.wd hask _ hrf).mono ?_
        rintro e w1 ⟨rfl, hC1, hrf1⟩
        rw [HT.out]
        by_cases e1 : c = cl
        · have hfin := HF.out
          rw [if_pos e1] at hfin
          have hRr := HR.out.reset hle hC1 hrf1
          have HF2 := Lib.hid hfin
          have HRr := Lib.hid hRr
          have HE1 := Lib.hid e1
          have n1 : ((c : Int) == (cl : Int)) = true := by rw [beq_iff_eq]; omega
          have n2 : (c == cl) = true := by rw [beq_iff_eq]; omega
          clear hfin hRr hC1 hrf1 hrf e1
          go_wp2_with fail
          go_roundg k
          case measure => omega
          case rel => exact ⟨s.reset sz, X, rfl, HRr.out, by show 8 * n - (s.p + s.wd) < k; omega, HF2.out, hom⟩
        have n1 : ((c : Int) == (cl : Int)) = false := by rw [beq_eq_false_iff_ne]; omega
        have n2 : (c == cl) = false := by rw [beq_eq_false_iff_ne]; omega
        have hR1 : Rz w w.heap.size A n cap b cl sz s.on _ _ _ X w1 := HR.out.take (s' := s.on) hC1 hrf1 rfl rfl rfl (hgd.on hle)
        have hgx1 := (hR1.xl _ hR1.x0).2
        by_cases e2 : c = cl + 1
        · have hfin := HF.out
          rw [if_neg e1, if_pos e2] at hfin
          obtain ⟨A', c', he', hN⟩ := newB_of_own hR1.out
          have hbel := hR1.bel
          have HF2 := Lib.hid hfin
          have HN := Lib.hid hN
          have HV := Lib.hid he'
          have HB := Lib.hid hbel
          have n3 : ((c : Int) == (cl : Int) + 1) = true := by rw [beq_iff_eq]; omega
          have HE2 := Lib.hid e2
          clear hfin hN he' hbel hR1 hC1 hrf1 hrf e1 e2
          go_wp2_with fail
          go_ret2
          rw [← HF2.out]
          exact ⟨A', c', by rw [HV.out]; rfl, ⟨HN.out.le, HN.out.max, HN.out.nil, HN.out.byt, (fun a ha => by have := HN.out.far a ha; omega), HN.out.lt, HN.out.form⟩, HB.out⟩
        have n3 : ((c : Int) == (cl : Int) + 1) = false := by rw [beq_eq_false_iff_ne]; omega
        have hfin := HF.out
        rw [if_neg e1, if_neg e2] at hfin
        have HR1 := Lib.hid hR1
        have HE1 := Lib.hid e1
        have HE2 := Lib.hid e2
        clear hR1 hC1 hrf1 hrf HF HR HT e1 e2
        obtain ⟨vs, hvs⟩ := HR1.out.rows
        have hvs1 := hvs.1
        have hout1 := HR1.out.out
        change World.ownsRow _ _ _ _ _ s.rows.length vs at hvs1
        change World.ownsRow _ _ _ _ _ s.out.length (cellsB s.out) at hout1
        obtain ⟨-, A10, c10, rfl, p1, p2, -⟩ := Sl.of_own hvs1
        obtain ⟨-, A13, c13, rfl, p3, p4, -⟩ := Sl.of_own hout1
        have hL0 := HR1.out.l0
        have hL1 := HR1.out.l1
        have hbel := Lib.hid HR1.out.bel
        have hfl := hgd.full
        have hvs2 : ∀ (i : Nat) (v : Value) (l : List Nat), vs[i]? = some v → s.rows[i]? = some l → RowV w1 X v l := hvs.2
        clear hvs
        obtain ⟨R, hRL⟩ : ∃ R, R = s.rows.length := ⟨_, rfl⟩
        obtain ⟨O, hOL⟩ : ∃ O, O = s.out.length := ⟨_, rfl⟩
        by_cases e3 : badC cl s.rows s.last c = true
        · rw [if_pos e3] at hfin
          have HF2 := Lib.hid hfin
          clear hfin hvs2 hvs1 hout1 p1 p2 p3 p4 HR1
          unfold badC at e3
          cases hl : s.last with
          | none =>
            rw [hl] at e3
            have d4 : decide (c < cl) = false := by simpa using e3
            have hv := hL0 hl
            subst hv
            have e0 := fun (w' : World) => Lib.run_eql_slice_nil (P := Try.prog) w' 22 5 none 0 0 0 0 Try.underlying22
            clear hL0 hL1 hRL hOL hl e3
            go_wp2
            go_ret2
            rw [← HF2.out]
            exact ⟨none, 0, rfl, NewB.nil0, hbel.out⟩
          | some l0 =>
            rw [hl] at e3
            simp at e3
            obtain ⟨a, ca, rfl, q1, q2, q3, q4, q5⟩ := hL1 l0 hl
            have d4 : decide (c < cl) = false := by simp; omega
            have e0 := fun (w' : World) => Lib.run_eql_slice_nil (P := Try.prog) w' 22 5 (some a) l0.length ca 0 0 Try.underlying22
            have d5 : decide ((cl : Int) + 2 + (s.rows.length : Int) < (c : Int)) = true := by simp; omega
            clear hL0 hL1 hRL hOL hl e3
            go_wp2
            go_ret2
            rw [← HF2.out]
            exact ⟨none, 0, rfl, NewB.nil0, hbel.out⟩
        · have e3' : badC cl s.rows s.last c = false := by simpa using e3
          rw [if_neg e3] at hfin
          clear e3
          have hrow := rowC_ok hgd c HE1.out HE2.out e3'
          have hrowl := row_le hgd c HE1.out HE2.out e3'
          have hxl := fun k hk => (HR1.out.xl k hk).2
          have HXL := Lib.hid hxl
          have hif : (c < cl ∧ rowC cl s.rows s.last c = [c]) ∨ (¬ c < cl ∧ c = cl + 2 + s.rows.length ∧ ∃ l0, s.last = some l0 ∧ rowC cl s.rows s.last c = l0 ++ [l0.headD 0]) ∨ (¬ c < cl ∧ c < cl + 2 + s.rows.length ∧ ∃ l0 i, s.last = some l0 ∧ c = cl + 2 + i ∧ s.rows[i]? = some (rowC cl s.rows s.last c)) :=
            row_forms e3' HE1.out HE2.out
          obtain ⟨row, hrw⟩ : ∃ row, row = rowC cl s.rows s.last c := ⟨_, rfl⟩
          rw [← hrw] at hif hfin hrowl
          have HRW := Lib.hid hrw
          have HF2 := Lib.hid hfin
          have HV2 := Lib.hid hvs2
          have HV1 := Lib.hid hvs1
          have HO1 := Lib.hid hout1
          have HRL := Lib.hid hRL
          have HOL := Lib.hid hOL
          clear hfin hvs2 hvs1 hout1 hrw hrow hxl hRL hOL
          have hL1' : ∀ l, s.last = some l → RowV w1 X u12 l := hL1
          go_upto_block 2 with fail
          go_cut [16] (fun s16 wx => SwAt w1 X row s16 wx)
          case first =>
            rcases hif with ⟨hlt, hr⟩ | ⟨hnl, hcn, l0, hl, hr⟩ | ⟨hnl, hlt2, l0, i, hl, hci, hri⟩
            · have d4 : decide (c < cl) = true := by simp; omega
              have w8 : IntKind.u8.wrap (c : Int) = (c : Int) := by rw [IntKind.wrap_u8']; omega
              subst hr
              clear hL0 hL1 hL1'
              go_wp2_with fail
              go_meet
              exact ⟨rowV_one w1 X c HXL.out, (Below.refl _ _).alloc (Nat.le_refl _) _⟩
            · have hRv := hL1' l0 hl
              have hlb : l0.length ≤ 5000 := by have := (hgd.last l0 hl).2.1; omega
              have hRvd : RowV w1.drew X u12 l0 := hRv.chg ((Chg.refl X w1).drew) (More.refl _ _)
              obtain ⟨x, hx⟩ : ∃ x, x = l0.headD 0 := ⟨_, rfl⟩
              rw [← hx] at hr
              obtain ⟨v1, W1, v2, W2, r1, b1, r2, o2, b2⟩ := app_two (x := x) hRvd hlb
              obtain ⟨v1', W1', v2', W2', r1', b1', r2', o2', b2'⟩ := app_two' (x := x) hRv HXL.out hlb
              have hRv2 := hRv
              obtain ⟨a, ca, rfl, q1, q2, q3, q4, q5⟩ := hRv2
              have hl0p : 0 < l0.length := by
                have := (hgd.last l0 hl).1
                cases l0 with
                | nil => exact absurd rfl this
                | cons y q => simp
              obtain ⟨bk, off, he', hbk, hcell⟩ := q3 hl0p
              injection he' with he'
              subst he'
              have hc0 := hcell 0 hl0p
              have hgx0 : gz l0 0 = x := by
                rw [hx]
                cases l0 with
                | nil => simp at hl0p
                | cons y q => rfl
              rw [hgx0, Nat.add_zero] at hc0
              have hc0' : W1.cell? ⟨bk, off, none⟩ = some (.int .u8 (x : Nat)) := (b1.cell (p := ⟨bk, off, none⟩) hbk).trans hc0
              have hc1 : W2.cell? ⟨bk, off, none⟩ = some (.int .u8 (x : Nat)) := (b2.cell (p := ⟨bk, off, none⟩) hbk).trans hc0
              have hc2 : W1'.cell? ⟨bk, off, none⟩ = some (.int .u8 (x : Nat)) := (b1'.cell (p := ⟨bk, off, none⟩) hbk).trans hc0
              have hc3 : W2'.cell? ⟨bk, off, none⟩ = some (.int .u8 (x : Nat)) := (b2'.cell (p := ⟨bk, off, none⟩) hbk).trans hc0
              have hc4' : W1.drew.cell? ⟨bk, off, none⟩ = some (.int .u8 (x : Nat)) := hc0'
              have hc5 : (w1.alloc (.cells #[.int .u8 (x : Nat)] 5)).drew.cell? ⟨bk, off, none⟩ = some (.int .u8 (x : Nat)) := ca_alloc _ hc0
              have hc6 : (W1.alloc (.cells #[.int .u8 (x : Nat)] 5)).cell? ⟨bk, off, none⟩ = some (.int .u8 (x : Nat)) := ca_alloc _ hc0'
              have hc7 : w1.drew.cell? ⟨bk, off, none⟩ = some (.int .u8 (x : Nat)) := hc0
              have d4 : decide (c < cl) = false := by simp; omega
              have d5 : decide ((cl : Int) + 2 + (s.rows.length : Int) < (c : Int)) = false := by simp; omega
              have d6 : ((c : Int) == (cl : Int) + 2 + (s.rows.length : Int)) = true := by rw [beq_iff_eq]; omega
              have e0 := fun (w' : World) => Lib.run_eql_slice_nil (P := Try.prog) w' 22 5 (some ⟨bk, off, none⟩) l0.length ca 0 0 Try.underlying22
              have hfin2 : SwAt w1 X row v2 W2 := by
                refine ⟨?_, ⟨b2.os, b2.tape, b2.output, b2.size, b2.block⟩⟩
                rw [hr]
                exact RowV.of_own o2 (by simp) HXL.out
              have hfin2' : SwAt w1 X row v2' W2' := by
                refine ⟨?_, b2'⟩
                rw [hr]
                exact RowV.of_own o2' (by simp) HXL.out
              have K1 := Lib.hid r1
              have K2 := Lib.hid r2
              have K1' := Lib.hid r1'
              have K2' := Lib.hid r2'
              have KF := Lib.hid hfin2
              have KF' := Lib.hid hfin2'
              clear r1 r2 r1' r2' hfin2 hfin2' o2 o2' b1 b2 b1' b2' hL0 hL1 hL1' hRv hRvd q3 hcell hx hgx0 hr hl hcn
              go_wp2_with fail
              have G0 := Lib.hid hc0; have G1 := Lib.hid hc0'; have G2 := Lib.hid hc1; have G3 := Lib.hid hc2; have G4 := Lib.hid hc3; have G5 := Lib.hid hc5; have G6 := Lib.hid hc6; have G7 := Lib.hid hc7
              go_region_held3 (fun w' => w'.cell? ⟨bk, off, none⟩ = some (.int .u8 (x : Nat))) (first | with_reducible exact G0.out | with_reducible exact G7.out | with_reducible exact G1.out | with_reducible exact G2.out | with_reducible exact G3.out | with_reducible exact G4.out | with_reducible exact G5.out | with_reducible exact G6.out)
                (first | ((with_reducible refine step_app (o := ⟨some 86, _, _, _, _, _⟩) ?_ (.const (.slice none 0 0)) (.tmp 85) 22 ?_ _ _ _ _ ?_ ?_ K1.out ?_); rfl; rfl; rfl; rfl) | ((with_reducible refine step_app (o := ⟨some 86, _, _, _, _, _⟩) ?_ (.const (.slice none 0 0)) (.tmp 85) 22 ?_ _ _ _ _ ?_ ?_ K1'.out ?_); rfl; rfl; rfl; rfl) | ((with_reducible refine step_app (o := ⟨some 91, _, _, _, _, _⟩) ?_ (.tmp 86) (.tmp 90) 22 ?_ _ _ _ _ ?_ ?_ K2.out ?_); rfl; rfl; rfl; rfl) | ((with_reducible refine step_app (o := ⟨some 91, _, _, _, _, _⟩) ?_ (.tmp 86) (.tmp 90) 22 ?_ _ _ _ _ ?_ ?_ K2'.out ?_); rfl; rfl; rfl; rfl) | fail)
              all_goals
                go_wp2_with fail
                go_meet
                first | exact KF.out | exact KF'.out
            · have hRv := hL1' l0 hl
              obtain ⟨a, ca, rfl, q1, q2, q3, q4, q5⟩ := hRv
              have hil : i < s.rows.length := (List.getElem?_eq_some_iff.1 hri).1
              have hvl : vs.length = s.rows.length := by have := HV1.out.1; omega
              obtain ⟨v, hv⟩ : ∃ v, vs[i]? = some v := ⟨_, List.getElem?_eq_getElem (by omega)⟩
              have hRi := HV2.out i v _ hv hri
              obtain ⟨_, _, _, he10, _, _, hcl10⟩ := Sl.of_own HV1.out
              injection he10 with he10 _ he10c
              subst he10 he10c
              obtain ⟨b10, o10, he', hbk, hcell⟩ := hcl10 (by omega)
              subst he'
              have hci0 := (hcell i (by omega)).trans hv
              obtain ⟨m, hm⟩ : ∃ m, c = cl + m := ⟨2 + i, by omega⟩
              have f1 : (c : Int) - (cl : Int) = (m : Int) := by omega
              have f2 : IntKind.i64.wrap ((c : Int) - (cl : Int)) = (m : Int) := (IntWalk.i64_in _ (by omega)).trans f1
              have f3 : (m : Int) - 2 = (i : Int) := by omega
              have f4 : IntKind.i64.wrap ((m : Int) - 2) = (i : Int) := (IntWalk.i64_in _ (by omega)).trans f3
              have f5 : IntKind.i64.wrap (m : Int) = (m : Int) := i64_small m (by omega)
              have f6 : IntKind.i64.wrap (i : Int) = (i : Int) := i64_small i (by omega)
              have f7 : (i : Int) < (s.rows.length : Int) := by omega
              have d4 : decide (c < cl) = false := by simp; omega
              have d5 : decide ((cl : Int) + 2 + (s.rows.length : Int) < (c : Int)) = false := by simp; omega
              have d6 : ((c : Int) == (cl : Int) + 2 + (s.rows.length : Int)) = false := by rw [beq_eq_false_iff_ne]; omega
              have e0 := fun (w' : World) => Lib.run_eql_slice_nil (P := Try.prog) w' 22 5 (some a) l0.length ca 0 0 Try.underlying22
              obtain ⟨ai, ci, rfl, z1, z2, z3, z4, z5⟩ := hRi
              have KF : Hid (SwAt w1 X row (.slice (some ai) row.length ci) w1) := Lib.hid ⟨⟨ai, ci, rfl, z1, z2, z3, z4, z5⟩, Below.refl _ _⟩
              clear hL0 hL1 hL1' q3 hcell hri hl hci hv z3 hcl10 hm
              go_wp2_with fail
              go_meet
              exact KF.out
          case rest =>
            clear hif
            obtain ⟨hRow, hBc⟩ := hcut
            have hRc := HR1.out.new hBc
            have hstep := hgd.step hle c hc4 HE1.out HE2.out e3'
            rw [← HRW.out] at hstep
            have hRow2 := hRow
            obtain ⟨ar, cr, rfl, z1, z2, z3, z4, z5⟩ := hRow2
            have hk2 : 8 * n - (s.p + s.wd) < k := by omega
            by_cases hsz : mo < s.out.length + row.length
            · have d7 : decide ((mo : Int) - (s.out.length : Int) < (row.length : Int)) = true := by simp; omega
              have hfin := HF2.out
              rw [if_pos hsz] at hfin
              have HF3 := Lib.hid hfin
              have HB := Lib.hid hRc.bel
              clear hfin hRow hRc hstep hL0 hL1 hL1'
              go_wp2
              go_ret2
              rw [← HF3.out]
              exact ⟨none, 0, rfl, NewB.nil0, HB.out⟩
            · have d7 : decide ((mo : Int) - (s.out.length : Int) < (row.length : Int)) = false := by simp; omega
              have hfin := HF2.out
              rw [if_neg hsz] at hfin
              have HF3 := Lib.hid hfin
              clear hfin
              have hmo : mo ≤ 1000000 := by omega
              obtain ⟨v13', w2, hr2, ho2, hg2, hat2⟩ := run_app (P := Try.prog) (w := wc) (w.heap.size + 1) 22 22 5 i0 (.int .u8 0) 1 1 Try.underlying22 hi hz0 hz1 hz2 rfl (by omega) _ s.out.length (cellsB s.out) hRc.out
                (some ar) row.length cr (cellsB row) (by simp) (by rw [cellsB_len]; omega) (row_news z3) (cellsB_one row) (by unfold maxLen; omega) (by omega) (by have := (hRc.xl _ hRc.x0).2; omega)
              have hcb : cellsB s.out ++ cellsB row = cellsB (s.out ++ row) := by simp [cellsB]
              rw [hcb] at ho2
              replace ho2 := own_len (show s.out.length + row.length = (s.out ++ row).length by simp) ho2
              obtain ⟨X2, hR2, hM2, hC2⟩ := hRc.newOut (o' := s.out ++ row) hg2 ho2 hat2 hstep.out
              have hRow2 := hRow.chg hC2 hM2
              have hol : (s.out ++ row).length ≤ mo := by simp; omega
              have HR2 := Lib.hid hr2
              have HRz := Lib.hid hR2
              have HRow := Lib.hid hRow2
              have HST := Lib.hid hstep
              clear hr2 ho2 hg2 hat2 hcb hR2 hM2 hC2 hRow2 hRow hRc hL0 hL1 hstep
              cases hl : s.last with
              | none =>
                have hv : u12 = .slice none 0 0 := HRz.out.l0 hl
                subst hv
                have hst : s.step cl row = ⟨s.p + s.wd, s.wd, s.rows, some row, s.out ++ row⟩ := by
                  unfold Cz.step rowsC wideC
                  rw [hl, if_neg (by simp), if_neg (by simp)]
                have hstg := HST.out
                rw [hst] at hstg
                rw [hst] at HF3
                have hnew : Rz w w.heap.size A n cap b cl sz ⟨s.p + s.wd, s.wd, s.rows, some row, s.out ++ row⟩ _ _ _ X2 w2 := HRz.out.fin HRow.out hstg
                have HN := Lib.hid hnew
                clear hnew hstg hst hL1' hl
                go_wp2_with (at_builtin; refine wpList_app rfl _ _ 22 rfl _ _ _ _ rfl rfl HR2.out ?_)
                go_roundg k
                case measure => omega
                case rel => exact ⟨⟨s.p + s.wd, s.wd, s.rows, some row, s.out ++ row⟩, X2, rfl, HN.out, hk2, HF3.out, hol⟩
              | some l0 =>
                have hRl : RowV w2 X2 u12 l0 := HRz.out.l1 l0 hl
                have hRl2 := hRl
                obtain ⟨a, ca, rfl, q1, q2, q3, q4, q5⟩ := hRl2
                have e0 := fun (w' : World) => run_neq_slice_nil (P := Try.prog) w' 22 5 (some a) l0.length ca Try.underlying22
                by_cases hfull : cl + 2 + s.rows.length < 4096
                · have d8 : decide ((cl : Int) + 2 + (s.rows.length : Int) < 4096) = true := by simp; omega
                  have hrp : 0 < row.length := hrowl.1
                  obtain ⟨bk, off, he', hbk, hcell⟩ := z3 hrp
                  injection he' with he'
                  subst he'
                  have hlb : l0.length ≤ 5000 := by have := (hgd.last l0 hl).2.1; omega
                  obtain ⟨x, hx⟩ : ∃ x, x = row.headD 0 := ⟨_, rfl⟩
                  have hgx0 : gz row 0 = x := by
                    rw [hx]
                    cases row with
                    | nil => simp at hrp
                    | cons y q => rfl
                  have hc0 : w2.cell? ⟨bk, off, none⟩ = some (.int .u8 (x : Nat)) := by
                    obtain ⟨ar2, cr2, hare, _, _, hby, _, _⟩ := HRow.out
                    injection hare with hare _ _
                    injection hare with hare
                    subst hare
                    obtain ⟨bk2, off2, he2, hbk2, hcell2⟩ := hby hrp
                    injection he2 with he2
                    injection he2 with g1 g2
                    subst g1 g2
                    have := hcell2 0 hrp
                    rw [hgx0, Nat.add_zero] at this
                    exact this
                  have hbk2 : bk < w2.heap.size := lt_of_cell hc0
                  have hRld : RowV w2.drew X2 (.slice (some a) l0.length ca) l0 := hRl.chg ((Chg.refl X2 w2).drew) (More.refl _ _)
                  have hX2l : ∀ k ∈ X2, k < w2.heap.size := fun k hk => (HRz.out.xl k hk).2
                  obtain ⟨v1, W1, v2, W2, r1, b1, r2, o2, b2⟩ := app_two (x := x) hRld hlb
                  obtain ⟨v1', W1', v2', W2', r1', b1', r2', o2', b2'⟩ := app_two' (x := x) hRl hX2l hlb
                  obtain ⟨m2, hm2⟩ : ∃ m2, m2 = (l0 ++ [x]).length := ⟨_, rfl⟩
                  have hm2p : 0 < m2 := by rw [hm2]; simp
                  replace o2 := own_len hm2.symm o2
                  replace o2' := own_len hm2.symm o2'
                  obtain ⟨gv, cv, rfl⟩ := own_some o2 (by omega)
                  obtain ⟨gv', cv', rfl⟩ := own_some o2' (by omega)
                  replace o2 := own_len hm2 o2
                  replace o2' := own_len hm2 o2'
                  have HM2 := Lib.hid hm2
                  clear hm2
                  have b1w : Below w2.heap.size w2 W1 := ⟨b1.os, b1.tape, b1.output, b1.size, b1.block⟩
                  have b2w : Below w2.heap.size w2 W2 := ⟨b2.os, b2.tape, b2.output, b2.size, b2.block⟩
                  obtain ⟨vs2, hvsA, hvsB⟩ := HRz.out.rows
                  have hgd3 : GoodC n cl sz ⟨s.p + s.wd, s.wd, s.rows ++ [l0 ++ [x]], s.last, s.out ++ row⟩ := by
                    have hg := HST.out
                    have hrows : (s.step cl row).rows = s.rows ++ [l0 ++ [x]] := by
                      show rowsC cl s.rows s.last row = _
                      unfold rowsC
                      rw [hl, if_pos ⟨rfl, hfull⟩, hx]
                      rfl
                    refine ⟨hgd.clv, hgd.sz2, hgd.sz8, hgd.wd1, hgd.wd2, hle, ?_, ?_, ?_, ?_, hg.out⟩
                    · have := hg.full
                      rw [hrows] at this
                      exact this
                    · intro i l hi
                      exact hg.rows i l (by rw [hrows]; exact hi)
                    · intro l hl2
                      exact (hgd.last l hl2).mono (by simp)
                    · intro hn
                      rw [hl] at hn
                      cases hn
                  have hthird : ∀ (W : World) (v : Value), W.ownsRow w2.heap.size 5 1 v (l0 ++ [x]).length (cellsB (l0 ++ [x])) → Below w2.heap.size w2 W → ∃ v10' W3, (Builtin.append_ #[94, 94] 94 #[.slice A10 s.rows.length c10, .slice (some ⟨W.heap.size, 0, none⟩) 1 1]).run Try.prog (W.alloc (.cells #[v] 22)) = .ok v10' W3 ∧
                      (∃ X3, Rz w w.heap.size A n cap b cl sz ⟨s.p + s.wd, s.wd, s.rows ++ [l0 ++ [x]], s.last, s.out ++ row⟩ v10' (.slice (some a) l0.length ca) v13' X3 W3 ∧ RowV W3 X3 (.slice (some ⟨bk, off, none⟩) row.length cr) row) ∧ W3.cell? ⟨bk, off, none⟩ = some (.int .u8 (x : Nat)) := by
                    intro W v hown hbW
                    have hbWA : Below w2.heap.size w2 (W.alloc (.cells #[v] 22)) := hbW.alloc hbW.size _
                    have hRA := HRz.out.new hbWA
                    have hRv : RowV (W.alloc (.cells #[v] 22)) X2 v (l0 ++ [x]) := RowV.of_own (hown.alloc _) (by simp) hX2l
                    have hvs3 := own_chg hvsA (Chg.of_below (S := []) hbWA) (by simp)
                    obtain ⟨i1, hi1, hy0, hy1, hy2⟩ := info_parts info22
                    have hv1 : v.oneCell' = true := by
                      obtain ⟨a9, c9, rfl, _⟩ := hRv
                      rfl
                    obtain ⟨v10', W3, hr3, ho3, hg3, hat3⟩ := run_app (P := Try.prog) (w := W.alloc (.cells #[v] 22)) (w.heap.size + 1) 94 94 22 i1 (.slice none 0 0) 1 24 Try.underlying94 hi1 hy0 hy1 hy2 rfl (by omega) (.slice A10 s.rows.length c10) s.rows.length vs2 hvs3
                      (some ⟨W.heap.size, 0, none⟩) 1 1 [v] (by simp) rfl (fun _ => ⟨_, 0, rfl, fun j u hj => by
                        match j, hj with
                        | 0, hj => simp at hj; subst hj; exact hp_cell (j := 0) (hp_new0 W _) rfl
                        | j + 1, hj => simp at hj⟩) (by intro u hu; simp at hu; subst hu; exact hv1) (by unfold maxLen; omega) (by omega) (by have := (HRz.out.xl _ HRz.out.x0).2; have := hbWA.size; omega)
                    obtain ⟨X3, hR3, hM3, hC3⟩ := hRA.newRow (v := v) (r := l0 ++ [x]) ⟨hvs3, fun i v' l hi hl' => (hvsB i v' l hi hl').chg (Chg.of_below hbWA) (More.refl _ _)⟩ hg3 ho3 hat3 hRv hgd3
                    have hRow3 := (HRow.out.chg (Chg.of_below hbWA) (More.refl _ _)).chg hC3 hM3
                    refine ⟨v10', W3, hr3, ⟨X3, hR3, hRow3⟩, ?_⟩
                    obtain ⟨ar2, cr2, hare, _, _, hby, _, _⟩ := hRow3
                    injection hare with hare _ _
                    injection hare with hare
                    subst hare
                    obtain ⟨bk2, off2, he2, hbk2, hcell2⟩ := hby hrp
                    injection he2 with he2
                    injection he2 with g1 g2
                    subst g1 g2
                    have := hcell2 0 hrp
                    rw [hgx0, Nat.add_zero] at this
                    exact this
                  obtain ⟨v3, W3, r3, f3, hc9⟩ := hthird W2 _ o2 b2w
                  obtain ⟨v3', W3', r3', f3', hc9'⟩ := hthird W2' _ o2' b2'
                  have hc1 : W1.cell? ⟨bk, off, none⟩ = some (.int .u8 (x : Nat)) := (b1w.cell (p := ⟨bk, off, none⟩) hbk2).trans hc0
                  have hc2 : W2.cell? ⟨bk, off, none⟩ = some (.int .u8 (x : Nat)) := (b2w.cell (p := ⟨bk, off, none⟩) hbk2).trans hc0
                  have hc3 : W1'.cell? ⟨bk, off, none⟩ = some (.int .u8 (x : Nat)) := (b1'.cell (p := ⟨bk, off, none⟩) hbk2).trans hc0
                  have hc4 : W2'.cell? ⟨bk, off, none⟩ = some (.int .u8 (x : Nat)) := (b2'.cell (p := ⟨bk, off, none⟩) hbk2).trans hc0
                  have hc5 : (w2.alloc (.cells #[.int .u8 (x : Nat)] 5)).drew.cell? ⟨bk, off, none⟩ = some (.int .u8 (x : Nat)) := ca_alloc _ hc0
                  have hc6 : (W1.alloc (.cells #[.int .u8 (x : Nat)] 5)).cell? ⟨bk, off, none⟩ = some (.int .u8 (x : Nat)) := ca_alloc _ hc1
                  have hc7 : w2.drew.cell? ⟨bk, off, none⟩ = some (.int .u8 (x : Nat)) := hc0
                  have hc8 : (W2.alloc (.cells #[.slice (some ⟨gv, 0, none⟩) m2 cv] 22)).cell? ⟨bk, off, none⟩ = some (.int .u8 (x : Nat)) := ca_alloc _ hc2
                  have hc8' : (W2'.alloc (.cells #[.slice (some ⟨gv', 0, none⟩) m2 cv'] 22)).cell? ⟨bk, off, none⟩ = some (.int .u8 (x : Nat)) := ca_alloc _ hc4
                  have K1 := Lib.hid r1; have K2 := Lib.hid r2; have K3 := Lib.hid r3
                  have K1' := Lib.hid r1'; have K2' := Lib.hid r2'; have K3' := Lib.hid r3'
                  have KF := Lib.hid f3; have KF' := Lib.hid f3'
                  have G0 := Lib.hid hc0; have G1 := Lib.hid hc1; have G2 := Lib.hid hc2; have G3 := Lib.hid hc3; have G4 := Lib.hid hc4; have G5 := Lib.hid hc5; have G6 := Lib.hid hc6; have G7 := Lib.hid hc7; have G8 := Lib.hid hc8; have G8' := Lib.hid hc8'; have G9 := Lib.hid hc9; have G9' := Lib.hid hc9'
                  have HX := Lib.hid hx
                  have HLs := Lib.hid hl
                  have hrow : Hid (gz row 0 = x) := Lib.hid hgx0
                  clear r1 r2 r3 r1' r2' r3' f3 f3' hc1 hc2 hc3 hc4 hc5 hc6 hc7 hc8 hc8' hc9 hc9' o2 o2' b1 b2 b1' b2' b1w b2w hthird hgd3 hvsA hvsB hRl hRld hL1' q3 z3 hcell hgx0 hx hl hX2l
                  go_wp2_with (at_builtin; refine wpList_app rfl _ _ 22 rfl _ _ _ _ rfl rfl HR2.out ?_)
                  go_cut [10] (fun s10 wx => RowsAt w w.heap.size A n cap b cl sz ⟨s.p + s.wd, s.wd, s.rows ++ [l0 ++ [x]], s.last, s.out ++ row⟩ s10 (.slice (some a) l0.length ca) v13' (.slice (some ⟨bk, off, none⟩) row.length cr) row wx)
                  case first =>
                    have hc0 := G0.out
                    go_wp2_with fail
                    go_region_held3 (fun w' => w'.cell? ⟨bk, off, none⟩ = some (.int .u8 (x : Nat))) (first | with_reducible exact G0.out | with_reducible exact G7.out | with_reducible exact G1.out | with_reducible exact G2.out | with_reducible exact G3.out | with_reducible exact G4.out | with_reducible exact G5.out | with_reducible exact G6.out | with_reducible exact G8.out | with_reducible exact G8'.out | with_reducible exact G9.out | with_reducible exact G9'.out)
                      (first | ((with_reducible refine step_app (o := ⟨some 110, _, _, _, _, _⟩) ?_ (.const (.slice none 0 0)) (.tmp 109) 22 ?_ _ _ _ _ ?_ ?_ K1.out ?_); rfl; rfl; rfl; rfl) | ((with_reducible refine step_app (o := ⟨some 110, _, _, _, _, _⟩) ?_ (.const (.slice none 0 0)) (.tmp 109) 22 ?_ _ _ _ _ ?_ ?_ K1'.out ?_); rfl; rfl; rfl; rfl) | ((with_reducible refine step_app (o := ⟨some 115, _, _, _, _, _⟩) ?_ (.tmp 110) (.tmp 114) 22 ?_ _ _ _ _ ?_ ?_ K2.out ?_); rfl; rfl; rfl; rfl) | ((with_reducible refine step_app (o := ⟨some 115, _, _, _, _, _⟩) ?_ (.tmp 110) (.tmp 114) 22 ?_ _ _ _ _ ?_ ?_ K2'.out ?_); rfl; rfl; rfl; rfl) | ((with_reducible refine step_app (o := ⟨some 117, _, _, _, _, _⟩) ?_ (.tmp 108) (.tmp 116) 94 ?_ _ _ _ _ ?_ ?_ K3.out ?_); rfl; rfl; rfl; rfl) | ((with_reducible refine step_app (o := ⟨some 117, _, _, _, _, _⟩) ?_ (.tmp 108) (.tmp 116) 94 ?_ _ _ _ _ ?_ ?_ K3'.out ?_); rfl; rfl; rfl; rfl) | fail)
                    all_goals
                      go_wp2_with fail
                      go_meet
                      first | exact KF.out | exact KF'.out
                  case rest =>
                    obtain ⟨X3, hR3, hRow3⟩ := hcut
                    have hl := HLs.out
                    have hrows : rowsC cl s.rows s.last row = s.rows ++ [l0 ++ [x]] := by
                      unfold rowsC
                      rw [hl, if_pos ⟨rfl, hfull⟩, HX.out]
                      rfl
                    have hwide : wideC cl s.wd s.rows s.last = if cl + 2 + s.rows.length + 1 = 2 ^ s.wd ∧ s.wd < 12 then s.wd + 1 else s.wd := by
                      unfold wideC
                      rw [hl]
                      simp [hfull]
                    have hstep : s.step cl row = ⟨s.p + s.wd, wideC cl s.wd s.rows s.last, s.rows ++ [l0 ++ [x]], some row, s.out ++ row⟩ := by
                      unfold Cz.step
                      rw [hrows]
                    have hstg := HST.out
                    rw [hstep] at hstg
                    rw [hstep] at HF3
                    have hnew := hR3.fin hRow3 hstg
                    have hp12 := pow12 hwd2
                    have HN := Lib.hid hnew
                    have HW := Lib.hid hwide
                    clear hnew hstg hstep hrows hl hR3 hRow3 hwide K1 K2 K3 K1' K2' K3' KF KF'
                    by_cases he2 : cl + 2 + s.rows.length + 1 = 2 ^ s.wd
                    · have e5 : ((cl : Int) + 2 + (s.rows.length : Int) + 1 == wrap64 ((2 : Int) ^ s.wd)) = true := by rw [wrap_pow s.wd hwd2, beq_iff_eq]; omega
                      by_cases h12 : s.wd < 12
                      · have e6 : decide ((s.wd : Int) < 12) = true := by simp; omega
                        have hwd : wideC cl s.wd s.rows s.last = s.wd + 1 := by rw [HW.out, if_pos ⟨he2, h12⟩]
                        rw [hwd] at HN HF3
                        clear he2 hwd
                        go_wp2_with fail
                        go_roundg k
                        case measure => omega
                        case rel => exact ⟨⟨s.p + s.wd, s.wd + 1, s.rows ++ [l0 ++ [x]], some row, s.out ++ row⟩, X3, rfl, HN.out, hk2, HF3.out, hol⟩
                      · have e6 : decide ((s.wd : Int) < 12) = false := by simp; omega
                        have hwd : wideC cl s.wd s.rows s.last = s.wd := by rw [HW.out, if_neg (fun h => h12 h.2)]
                        rw [hwd] at HN HF3
                        clear he2 hwd
                        go_wp2_with fail
                        go_roundg k
                        case measure => omega
                        case rel => exact ⟨⟨s.p + s.wd, s.wd, s.rows ++ [l0 ++ [x]], some row, s.out ++ row⟩, X3, rfl, HN.out, hk2, HF3.out, hol⟩
                    · have e5 : ((cl : Int) + 2 + (s.rows.length : Int) + 1 == wrap64 ((2 : Int) ^ s.wd)) = false := by rw [wrap_pow s.wd hwd2, beq_eq_false_iff_ne]; omega
                      have hwd : wideC cl s.wd s.rows s.last = s.wd := by rw [HW.out, if_neg (fun h => he2 h.1)]
                      rw [hwd] at HN HF3
                      clear he2 hwd
                      go_wp2_with fail
                      go_roundg k
                      case measure => omega
                      case rel => exact ⟨⟨s.p + s.wd, s.wd, s.rows ++ [l0 ++ [x]], some row, s.out ++ row⟩, X3, rfl, HN.out, hk2, HF3.out, hol⟩
                · have d8 : decide ((cl : Int) + 2 + (s.rows.length : Int) < 4096) = false := by simp; omega
                  have hst : s.step cl row = ⟨s.p + s.wd, s.wd, s.rows, some row, s.out ++ row⟩ := by
                    unfold Cz.step rowsC wideC
                    rw [if_neg (fun h => hfull h.1.2), if_neg (fun h => hfull h.2)]
                  have hstg := HST.out
                  rw [hst] at hstg
                  rw [hst] at HF3
                  have hnew : Rz w w.heap.size A n cap b cl sz ⟨s.p + s.wd, s.wd, s.rows, some row, s.out ++ row⟩ _ _ _ X2 w2 := HRz.out.fin HRow.out hstg
                  have HN := Lib.hid hnew
                  clear hnew hstg hst hL1' hl hRl q3
                  go_wp2_with (at_builtin; refine wpList_app rfl _ _ 22 rfl _ _ _ _ rfl rfl HR2.out ?_)
                  go_roundg k
                  case measure => omega
                  case rel => exact ⟨⟨s.p + s.wd, s.wd, s.rows, some row, s.out ++ row⟩, X2, rfl, HN.out, hk2, HF3.out, hol⟩
  · have hm' : mayZ size most = false := by simpa using hm
    have hv := lzwV_no b n size most hm'
    rw [hv]
    unfold mayZ at hm'
    clear hv hm
    go_enter Try.func41, Try.ntmps41
    by_cases h1 : size < 2
    · go_wp2
      go_ret2
      exact ⟨none, 0, rfl, NewB.nil0, Below.refl _ _⟩
    · by_cases h2 : 8 < size
      · go_wp2
        go_ret2
        exact ⟨none, 0, rfl, NewB.nil0, Below.refl _ _⟩
      · have h3 : most < 0 := by simp at hm'; omega
        go_wp2
        go_ret2
        exact ⟨none, 0, rfl, NewB.nil0, Below.refl _ _⟩
end Go.Proofs.Ytkjlejkcedemlaa

namespace Go.Proofs.Ytkjlejkcedemlaa
set_option maxRecDepth 100000
set_option linter.unusedVariables false
open Go.ChangeShapes Go.WideShapes Go.ChangeAt Go.RowKit
open Go.Maps

theorem laidOutZ : laidOutB Try.prog = true := by kernel_rfl
theorem row81 : (123 : TypeId) < Try.prog.types.size := of_decide_eq_true (by kernel_rfl)
theorem law81 : WideMaps.KeyLaw Try.prog 123 := deep_law_laid laidOutZ (m := 3) (by omega) row81 (by kernel_rfl) (by kernel_rfl)
theorem keyed81 : Keyed Try.prog 123 := Keyed.of_law law81
def litsE (c : Int) (v : Nat) : List Lit := [.int .i64 c, .int .u8 (v : Nat)]
def klE (c : Int) (v : Nat) : Lit := .string (keyBytes (litsE c v))
def eV (c : Int) (v : Nat) : Value := .agg #[.int .i64 c, .int .u8 (v : Nat)]
theorem wfE1 {c : Int} (h : -9223372036854775808 ≤ c ∧ c ≤ 9223372036854775807) : (Lit.int .i64 c).wf = true := by
  have h1 : IntKind.i64.min = -9223372036854775808 := rfl
  have h2 : IntKind.i64.max = 9223372036854775807 := rfl
  simp [Lit.wf, h1, h2]
  omega
theorem wfE2 {v : Nat} (h : v < 256) : (Lit.int .u8 (v : Int)).wf = true := by
  have h1 : IntKind.u8.min = 0 := rfl
  have h2 : IntKind.u8.max = 255 := rfl
  simp [Lit.wf, h1, h2]
  omega
theorem cellsE : Try.prog.cellsOf 123 = 2 := by kernel_rfl
theorem ktypeE : Try.prog.keyType 123 = true := by kernel_rfl
theorem types_succ3 : ∃ m, Try.prog.types.size = m + 3 := ⟨Try.prog.types.size - 3, by kernel_rfl⟩
theorem cellsOI : Try.prog.cellsOf 3 = 1 := by kernel_rfl
theorem cellsU : Try.prog.cellsOf 5 = 1 := by kernel_rfl
theorem key_eV (c : Int) (v : Nat) (hc : -9223372036854775808 ≤ c ∧ c ≤ 9223372036854775807) (hv : v < 256) : keyOf Try.prog 123 (eV c v) = some (klE c v) := by
  have hf : (eV c v).formed Try.prog 123 = true := by
    simp [eV, Value.formed, Try.underlying123]
    exact cellsE.symm
  obtain ⟨m, hm⟩ := types_succ3
  have h1 : Try.prog.keyLits (m + 3) 3 [.int .i64 c] = some [.int .i64 c] := by simp [Program.keyLits, Try.underlying3, wfE1 hc]
  have h2 : Try.prog.keyLits (m + 3) 5 [.int .u8 (v : Nat)] = some [.int .u8 (v : Nat)] := by simp [Program.keyLits, Try.underlying5, wfE2 hv]
  unfold keyOf
  rw [Try.underlying123]
  simp only [ktypeE, hf, hm, Bool.and_self, if_true]
  rw [Program.keyLits.eq_def]
  simp only [Try.underlying123]
  simp [eV, Value.cells, cellsOI, cellsU, h1, h2, klE, litsE]
  exact cellsE.symm
theorem klE_key (c : Int) (v : Nat) : WideAt.IsKeyLit (klE c v) := trivial
def In64' (c : Int) : Prop := -9223372036854775808 ≤ c ∧ c ≤ 9223372036854775807
theorem klE_inj {c c' : Int} {v v' : Nat} (hc : In64' c) (hv : v < 256) (hc' : In64' c') (hv' : v' < 256) (h : klE c v = klE c' v') : c = c' ∧ v = v' := by
  unfold klE at h
  injection h with h
  have e := keyBytes_inj (l := litsE c v) (l' := litsE c' v') (by simp [Alike, litsE, Lit.sameKind])
    (by intro x hx; simp [litsE] at hx; rcases hx with rfl | rfl; exact wfE1 hc; exact wfE2 hv)
    (by intro x hx; simp [litsE] at hx; rcases hx with rfl | rfl; exact wfE1 hc'; exact wfE2 hv') h
  simp [litsE] at e
  omega
/-- A table's keys. -/
def TabWf (t : List (Nat × Nat)) : Prop := ∀ x ∈ t, x.1 < 100000 ∧ x.2 < 256
/-- The map holds the places of a table. -/
def EMap (D : DataW Unit) (cl : Nat) (t : List (Nat × Nat)) : Prop := IsMap D ∧ Maps.size D = t.length ∧ (∀ v, v < 256 → Maps.has D (klE (-1) v) = false) ∧
  ∀ (c v : Nat), c < 100000 → v < 256 → Maps.has D (klE c v) = decide ((c, v) ∈ t) ∧ ((c, v) ∈ t → D.atKey (klE c v) (.lit (.int .i64 0)) = .lit (.int .i64 ((cl + 2 + t.idxOf (c, v) : Nat) : Int)))
theorem EMap.nil (cl : Nat) : EMap (.map []) cl [] := ⟨⟨[], rfl⟩, rfl, fun v _ => rfl, fun c v _ _ => ⟨by simp [Maps.has_eq], fun h => by simp at h⟩⟩
theorem EMap.put {D : DataW Unit} {cl : Nat} {t : List (Nat × Nat)} (h : EMap D cl t) (ht : Tidy D) {c v : Nat} (hc : c < 100000) (hv : v < 256) (hn : (c, v) ∉ t) : EMap (D.put (klE c v) (.lit (.int .i64 ((cl + 2 + t.length : Nat) : Int)))) cl (t ++ [(c, v)]) := by
  obtain ⟨hm, hs, h0, hh⟩ := h
  refine ⟨hm.put _ _, ?_, fun v' hv' => ?_, fun c' v' hc' hv' => ?_⟩
  · rw [Maps.size_put ht, (hh c v hc hv).1, hs]
    simp [hn]
  · rw [Maps.has_put_other (fun e => by have := (klE_inj (by unfold In64'; omega) hv' (by unfold In64'; omega) hv e).1; omega)]
    exact h0 v' hv'
  · by_cases e : c' = c ∧ v' = v
    · obtain ⟨rfl, rfl⟩ := e
      refine ⟨by rw [Maps.has_put_same hm (klE_key _ _)]; simp, fun _ => ?_⟩
      rw [Maps.atKey_put_same hm (klE_key _ _), List.idxOf_append, if_neg hn]
      simp
    · have ek : klE c' v' ≠ klE c v := fun h => e (by have := klE_inj (by unfold In64'; omega) hv' (by unfold In64'; omega) hv h; omega)
      obtain ⟨h1, h2⟩ := hh c' v' hc' hv'
      have e' : ¬ ((c', v') = (c, v)) := fun h => e (by injection h with h1 h2; exact ⟨h1, h2⟩)
      refine ⟨?_, fun hm2 => ?_⟩
      · rw [Maps.has_put_other ek, h1]
        have : ((c', v') ∈ t ++ [(c, v)]) ↔ ((c', v') ∈ t) := by rw [List.mem_append, List.mem_singleton]; exact ⟨fun h => h.resolve_right e', .inl⟩
        simp only [this]
      · have hq2 : (c', v') ∈ t := by
          rcases List.mem_append.1 hm2 with h | h
          · exact h
          · exact absurd (List.mem_singleton.1 h) e'
        rw [Maps.atKey_put_other ek, h2 hq2, List.idxOf_append, if_pos hq2]

/-! ### What is written -/
/-- A writer: bits, a code's bits, the number made next, the rows, is the next code the first one. -/
structure Ez where
  bits : List Nat
  wd : Nat
  nx : Nat
  tab : List (Nat × Nat)
  first : Bool
def Ez.put (s : Ez) (c : Nat) : Ez := ⟨s.bits ++ numB false (c : Nat) s.wd, if s.first = true then s.wd else growB s.wd s.nx, if s.first = true then s.nx else growN s.nx, s.tab, false⟩
def Ez.clear (s : Ez) (cl sz : Nat) : Ez := ⟨s.bits ++ numB false (cl : Nat) s.wd, sz + 1, cl + 2, [], true⟩
def Ez.add (s : Ez) (cl sz c v : Nat) : Ez :=
  if cl + 2 + s.tab.length < 4096 then ⟨(s.put c).bits, (s.put c).wd, (s.put c).nx, s.tab ++ [(c, v)], false⟩ else (s.put c).clear cl sz
/-- A value more. -/
def stepE (cl sz : Nat) (q : Ez × Option Nat) (v : Nat) : Ez × Option Nat :=
  match q.2 with
  | none => (q.1, some v)
  | some k => if (k, v) ∈ q.1.tab then (q.1, some (cl + 2 + q.1.tab.idxOf (k, v))) else (q.1.add cl sz k v, some v)
def ez0 (cl sz : Nat) : Ez := Ez.clear ⟨[], sz + 1, cl + 2, [], true⟩ cl sz
def runE (cl sz : Nat) (l : List Nat) : Ez × Option Nat := l.foldl (stepE cl sz) (ez0 cl sz, none)
def endE (cl : Nat) (q : Ez × Option Nat) : List Nat :=
  match q.2 with
  | none => q.1.bits ++ numB false ((cl + 1 : Nat) : Int) q.1.wd
  | some k => (q.1.put k).bits ++ numB false ((cl + 1 : Nat) : Int) (q.1.put k).wd
/-- The bytes that are written. -/
def lzwE (sz : Nat) (l : List Nat) : List Nat := (pack false (endE (2 ^ sz) (runE (2 ^ sz) sz l))).1
end Go.Proofs.Ytkjlejkcedemlaa

namespace Go.Proofs.Ytkjlejkcedemlaa
set_option maxRecDepth 100000
set_option linter.unusedVariables false
open Go.ChangeShapes Go.WideShapes Go.ChangeAt Go.RowKit
open Go.Maps

theorem map_chg {P : Program} {k : TypeId} {R : Value → Option (DataW Unit × List MemPlace)} {w w' : World} {b n : Nat} {D : DataW Unit} {S : List Nat} (h : w.ownsMap P k R b n D) (hc : Chg S w w') (hb : b ∉ S) : w'.ownsMap P k R b n D := by
  obtain ⟨es, clock, h1, h2, h3, h4⟩ := h
  exact ⟨es, clock, hp_chg h1 hc hb, h2, h3, h4⟩
section
variable {x gl m : Nat} {ob : Option Nat} {sz cl : Nat} {s : Ez} {S : List Nat} {w w' : World}
end
end Go.Proofs.Ytkjlejkcedemlaa

namespace Go.Proofs.Ytkjlejkcedemlaa
set_option maxRecDepth 100000
set_option linter.unusedVariables false
open Go.ChangeShapes Go.WideShapes Go.ChangeAt Go.RowKit
open Go.Maps
theorem pack_bytes (l : List Nat) (h : l.length ≤ 3900000) : (pack false l).1.length ≤ 500000 := by rw [pack_len]; omega
theorem own_mapN {P : Program} {k : TypeId} {R : Value → Option (DataW Unit × List MemPlace)} {w : World} {b n n' : Nat} {D : DataW Unit} (h : n = n') (ho : w.ownsMap P k R b n D) : w.ownsMap P k R b n' D := by subst h; exact ho
theorem put_nx {s : Ez} (c : Nat) (h : s.nx ≤ 4096) : (s.put c).nx ≤ 4096 := by
  unfold Ez.put growN
  dsimp only
  split <;> (try split) <;> omega
theorem put_wd {s : Ez} (c : Nat) (h : s.wd ≤ 12) : (s.put c).wd ≤ 12 := by
  unfold Ez.put growB
  dsimp only
  split <;> (try split) <;> omega
theorem put_bits (s : Ez) (c : Nat) (h : s.wd ≤ 12) : (s.put c).bits.length ≤ s.bits.length + 12 := by
  show (s.bits ++ numB false (c : Nat) s.wd).length ≤ _
  rw [List.length_append, numB_len]
  omega
end Go.Proofs.Ytkjlejkcedemlaa

namespace Go.Proofs.Ytkjlejkcedemlaa
set_option maxRecDepth 100000
set_option linter.unusedVariables false
open Go.ChangeShapes Go.WideShapes Go.ChangeAt Go.RowKit
open Go.Maps
section
variable {x gl : Nat} {vm : Value} {ob : Option Nat} {sz : Nat} {s : Ez} {S : List Nat} {w w' : World}
end
end Go.Proofs.Ytkjlejkcedemlaa

namespace Go.Proofs.Ytkjlejkcedemlaa
set_option maxRecDepth 100000
set_option linter.unusedVariables false
open Go.ChangeShapes Go.WideShapes Go.ChangeAt Go.RowKit
open Go.Maps

/-- What holds of a writer behind j values. -/
structure InvE (cl : Nat) (q : Ez × Option Nat) (j : Nat) : Prop where
  wd : q.1.wd ≤ 12
  nx : q.1.nx ≤ 4096
  tl : cl + 2 + q.1.tab.length ≤ 4096
  bl : q.1.bits.length ≤ 24 * j + 12
  now : ∀ k, q.2 = some k → k < 4096
theorem inv_clear {s : Ez} {cl sz : Nat} (hs : sz ≤ 8) (hc : cl ≤ 256) {j : Nat} (h : s.bits.length ≤ j) (hwd : s.wd ≤ 12) : (s.clear cl sz).wd ≤ 12 ∧ (s.clear cl sz).nx ≤ 4096 ∧ cl + 2 + (s.clear cl sz).tab.length ≤ 4096 ∧ (s.clear cl sz).bits.length ≤ j + 12 := by
  unfold Ez.clear
  refine ⟨by show sz + 1 ≤ 12; omega, by show cl + 2 ≤ 4096; omega, by show cl + 2 + 0 ≤ 4096; omega, ?_⟩
  show (s.bits ++ numB false (cl : Nat) s.wd).length ≤ _
  rw [List.length_append, numB_len]
  omega
theorem inv0 {cl sz : Nat} (hs : sz ≤ 8) (hc : cl ≤ 256) : InvE cl (ez0 cl sz, none) 0 := by
  obtain ⟨h1, h2, h3, h4⟩ := inv_clear (s := ⟨[], sz + 1, cl + 2, [], true⟩) (j := 0) hs hc (by simp) (by show sz + 1 ≤ 12; omega)
  exact ⟨h1, h2, h3, by unfold ez0; omega, (fun k h => by cases h)⟩
theorem inv_step {cl sz : Nat} (hs : sz ≤ 8) (hc : cl ≤ 256) {q : Ez × Option Nat} {j v : Nat} (h : InvE cl q j) (hv : v < 256) : InvE cl (stepE cl sz q v) (j + 1) := by
  obtain ⟨s, now⟩ := q
  obtain ⟨h1, h2, h3, h4, h5⟩ := h
  simp only at h1 h2 h3 h4 h5
  unfold stepE
  cases now with
  | none => exact ⟨h1, h2, h3, by show s.bits.length ≤ _; omega, fun k hk => by injection hk with hk; omega⟩
  | some k =>
    dsimp only
    by_cases hm : (k, v) ∈ s.tab
    · rw [if_pos hm]
      have := List.idxOf_lt_length_of_mem hm
      exact ⟨h1, h2, h3, by show s.bits.length ≤ _; omega, fun k' hk => by injection hk with hk; omega⟩
    · rw [if_neg hm]
      have b1 := put_bits s k h1
      have b2 := put_wd (s := s) k h1
      have b3 := put_nx (s := s) k h2
      unfold Ez.add
      by_cases hf : cl + 2 + s.tab.length < 4096
      · rw [if_pos hf]
        exact ⟨b2, b3, by simp; omega, by show (s.put k).bits.length ≤ _; omega, fun k' hk => by injection hk with hk; omega⟩
      · rw [if_neg hf]
        obtain ⟨g1, g2, g3, g4⟩ := inv_clear (s := s.put k) (sz := sz) hs hc b1 b2
        exact ⟨g1, g2, g3, by show ((s.put k).clear cl sz).bits.length ≤ _; omega, fun k' hk => by injection hk with hk; omega⟩
theorem inv_run {cl sz : Nat} (hs : sz ≤ 8) (hc : cl ≤ 256) (l : List Nat) (h : ∀ v ∈ l, v < 256) : InvE cl (runE cl sz l) l.length := by
  have key : ∀ (m : List Nat) (q : Ez × Option Nat) (j : Nat), InvE cl q j → (∀ v ∈ m, v < 256) → InvE cl (m.foldl (stepE cl sz) q) (j + m.length) := by
    intro m
    induction m with
    | nil => intro q j hq _; exact hq
    | cons v m ih =>
      intro q j hq hm
      rw [List.foldl_cons, List.length_cons, show j + (m.length + 1) = (j + 1) + m.length by omega]
      exact ih _ _ (inv_step hs hc hq (hm v (by simp))) (fun u hu => hm u (by simp [hu]))
  have := key l (ez0 cl sz, none) 0 (inv0 hs hc) h
  rwa [Nat.zero_add] at this
theorem runE_snoc (cl sz : Nat) (l : List Nat) (v : Nat) : runE cl sz (l ++ [v]) = stepE cl sz (runE cl sz l) v := by simp [runE]
def nowI (o : Option Nat) : Int := match o with | none => -1 | some k => (k : Nat)
theorem bytes_take (b : Nat → Nat) (n j : Nat) (h : j < n) : ((List.range n).map b).take (j + 1) = ((List.range n).map b).take j ++ [b j] := by
  rw [List.take_add_one, List.getElem?_eq_getElem (by simpa using h)]
  simp
theorem wrap_pow1 (k : Nat) (h : k ≤ 12) : wrap64 (1 * (2 : Int) ^ k) = ((2 ^ k : Nat) : Int) := by rw [Int.one_mul]; exact wrap_pow k h
theorem hzE (w : World) : (zeroValue 3).run Try.prog w = .ok (.int .i64 0) w := by kernel_rfl
theorem lit_inj {x y : Int} (h : (DataW.lit (.int .i64 x) : DataW Unit) = .lit (.int .i64 y)) : x = y := by injection h with h; injection h
end Go.Proofs.Ytkjlejkcedemlaa

namespace Go.Proofs.Ytkjlejkcedemlaa
set_option maxRecDepth 100000
set_option linter.unusedVariables false
open Go.ChangeShapes Go.WideShapes Go.ChangeAt Go.RowKit

theorem cl_bound {sz : Nat} (h1 : 2 ≤ sz) (h2 : sz ≤ 8) : 4 ≤ 2 ^ sz ∧ 2 ^ sz ≤ 256 := ⟨Nat.pow_le_pow_right (n := 2) (i := 2) (by omega) h1, Nat.pow_le_pow_right (n := 2) (j := 8) (by omega) h2⟩
end Go.Proofs.Ytkjlejkcedemlaa

namespace Go.Proofs.Ytkjlejkcedemlaa
set_option maxRecDepth 100000
set_option linter.unusedVariables false
open Go.ChangeShapes Go.WideShapes Go.ChangeAt Go.RowKit

theorem byt_new (w : World) (l : List Nat) (cs : Array Value) (hcs : cs.toList = cellsB l) : Byt (w.alloc (.cells cs 5)) (some ⟨w.heap.size, 0, none⟩) l.length (gz l) := fun hl =>
  ⟨_, 0, rfl, by simp, fun j hj => hp_cell (hp_new0 w _) (by
    rw [Nat.zero_add, ← Array.getElem?_toList, hcs]
    simp [cellsB, gz, hj])⟩
theorem aw_read : lzwV (gz [140, 10]) 2 2 9 = ([1, 2], 0) := by decide +kernel
theorem aw_len : (lzwE 2 [1, 2, 1, 2, 3]).length = 3 := by decide +kernel
theorem aw_back : lzwV (gz (lzwE 2 [1, 2, 1, 2, 3])) 3 2 9 = ([1, 2, 1, 2, 3], 0) := by decide +kernel
theorem aw_gz : (List.range 5).map (gz [1, 2, 1, 2, 3]) = [1, 2, 1, 2, 3] := by decide
theorem aw_s1 : ((strB 2 (gz [1, 2])).toList == [1, 2]) = true := by decide +kernel
theorem aw_s2 : ((strB 5 (gz [1, 2, 1, 2, 3])).toList == [1, 2, 1, 2, 3]) = true := by decide +kernel
theorem aw_all : ∀ i, i < 5 → gz [1, 2, 1, 2, 3] i < 2 ^ 2 := by decide
theorem gz_256 {l : List Nat} (h : l.all (· < 256) = true) (i : Nat) : gz l i < 256 := gz_lt (fun x hx => by simpa using List.all_eq_true.1 h x hx) i
theorem lzwE_lt (sz : Nat) (l : List Nat) (i : Nat) : gz (lzwE sz l) i < 256 := by
  refine gz_lt (fun x hx => ?_) i
  refine pack_lt' false _ (fun v hv => ?_) x hx
  have key : ∀ q : Ez × Option Nat, (∀ v ∈ q.1.bits, v < 2) → ∀ v ∈ endE (2 ^ sz) q, v < 2 := by
    rintro ⟨s, now⟩ hq v hv
    cases now with
    | none =>
      rcases List.mem_append.1 hv with h | h
      · exact hq v h
      · exact numB_lt _ _ _ v h
    | some k =>
      rcases List.mem_append.1 hv with h | h
      · rcases List.mem_append.1 h with h | h
        · exact hq v h
        · exact numB_lt _ _ _ v h
      · exact numB_lt _ _ _ v h
  have step : ∀ (q : Ez × Option Nat) (x : Nat), (∀ v ∈ q.1.bits, v < 2) → ∀ v ∈ (stepE (2 ^ sz) sz q x).1.bits, v < 2 := by
    rintro ⟨s, now⟩ x hq v hv
    unfold stepE at hv
    cases now with
    | none => exact hq v hv
    | some k =>
      dsimp only at hv
      split at hv
      · exact hq v hv
      · unfold Ez.add at hv
        split at hv
        · rcases List.mem_append.1 hv with h | h
          · exact hq v h
          · exact numB_lt _ _ _ v h
        · rcases List.mem_append.1 hv with h | h
          · rcases List.mem_append.1 h with h | h
            · exact hq v h
            · exact numB_lt _ _ _ v h
          · exact numB_lt _ _ _ v h
  have run : ∀ (m : List Nat) (q : Ez × Option Nat), (∀ v ∈ q.1.bits, v < 2) → ∀ v ∈ (m.foldl (stepE (2 ^ sz) sz) q).1.bits, v < 2 := by
    intro m
    induction m with
    | nil => intro q hq; exact hq
    | cons a m ih => intro q hq; exact ih _ (step q a hq)
  refine key _ (run l _ (fun v hv => ?_)) v hv
  have hv' : v ∈ ([] : List Nat) ++ numB false ((2 ^ sz : Nat) : Int) (sz + 1) := hv
  rw [List.nil_append] at hv'
  exact numB_lt _ _ _ v hv'
end Go.Proofs.Ytkjlejkcedemlaa

namespace Go.Proofs.Ytkjlejkcedemlaa
set_option maxRecDepth 100000
set_option linter.unusedVariables false
open Go.ChangeShapes Go.WideShapes Go.ChangeAt Go.RowKit

theorem finC_len (b : Nat → Nat) (n cl sz most : Nat) (k : Nat) : ∀ s : Cz, s.out.length ≤ most → (finC b n cl sz most k s).1.length ≤ most := by
  induction k with
  | zero => intro s _; simp [finC]
  | succ k ih =>
    intro s hs
    rw [finC]
    split
    · simp
    · split
      · exact ih _ hs
      · split
        · exact hs
        · split
          · simp
          · split
            · simp
            · exact ih _ (by show (s.out ++ _).length ≤ most; rw [List.length_append]; omega)
theorem lzwV_len (b : Nat → Nat) (n : Nat) (size most : Int) : (lzwV b n size most).1.length ≤ most.toNat := by
  unfold lzwV
  split
  · simp
  · exact finC_len _ _ _ _ _ _ _ (by simp [cz0])
end Go.Proofs.Ytkjlejkcedemlaa
