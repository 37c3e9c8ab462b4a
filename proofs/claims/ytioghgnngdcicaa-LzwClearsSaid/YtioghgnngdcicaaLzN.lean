/- A reader of GIF's codes: one code. -/
import Derived.Test.YtioghgnngdcicaaLzQ
namespace Go.Proofs.Ytioghgnngdcicaa
set_option linter.unusedVariables false
open Go.ChangeShapes Go.WideShapes Go.ChangeAt Go.RowKit

set_option maxRecDepth 100000 in
set_option maxHeartbeats 1000000 in
theorem further_no (g gl most sz wd nx : Nat) (vt vw vo : Value) (lc : Int) (en : Bool) (er : Int) (c : Nat) (hlt : nx < c) (w : World)
    (hb : LzBox g gl most sz wd nx vt lc vw vo en er w) :
    Calls Try.prog 47 #[.pointer (some ⟨g, 0, none⟩), .int .i64 (c : Nat)] w fun e w' => PanE 4 e ∧ w = w' := by
  have hb' : w.heap[g]? = _ := hb
  have c4 := hp_cell (j := 4) hb' rfl
  have d1 : decide (c < nx) = false := by simp; omega
  have d2 : (c == nx) = false := by rw [beq_eq_false_iff_ne]; omega
  have d3 : ((c : Int) == (nx : Int)) = false := by rw [beq_eq_false_iff_ne]; omega
  clear hb hb'
  go_enter Try.func47, Try.ntmps47
  go_wp2_with fail
  exact ⟨rfl, rfl, rfl⟩
set_option maxRecDepth 100000 in
set_option maxHeartbeats 2000000 in
theorem one_reset (g gl : Nat) (A : Option Addr) (n cap : Nat) (b : Nat → Nat) (hbt : ∀ i, b i < 256) (most sz cl : Nat) (hcl : Hid (cl = 2 ^ sz)) (hs : sz ≤ 8) (hc4 : 4 ≤ cl ∧ cl ≤ 256) (p wd nx : Nat) (vt vw vo : Value) (lc : Int) (er : Int) (t : List (Nat × Nat)) (o : List Nat) (S : List Nat)
    (hn : n ≤ 1000000) (hp : p ≤ 8 * n) (hk : p + wd ≤ 8 * n) (hwd : wd ≤ 12) (c : Nat) (hT : c = takeL b p wd) (hc : c = cl) (w : World)
    (hb : LzBox g gl most sz wd nx vt lc vw vo false er w) (hm : LzMem g gl A n cap b p vt vw vo t [] o S w) :
    Calls Try.prog 34 #[.pointer (some ⟨g, 0, none⟩)] w fun e w' => e = .returned (.tuple #[]) ∧ ∃ vw', LzBox g gl most sz (sz + 1) (cl + 2) (.slice none 0 0) (-1) vw' vo false er w' ∧ LzMem g gl A n cap b (p + wd) (.slice none 0 0) vw' vo [] [] o S w' ∧ Chg S w w' := by
  have hask : askB (wd : Nat) (8 * n - p) = true := by unfold askB; simp; omega
  obtain ⟨Aw, cw, rfl, q1, q2, q3, q4, q5⟩ := hm.wts
  have hb' : w.heap[g]? = _ := hb
  have c0 := hp_cell (j := 0) hb' rfl
  have c3 := hp_cell (j := 3) hb' rfl
  have c7 := hp_cell (j := 7) hb' rfl
  have hgl := hm.glg
  have HR := Lib.hid hm.rd
  have HM := Lib.hid hm
  have HBX := Lib.hid hb'
  have hglS := hm.s2
  have hgS := hm.s1
  have HT := Lib.hid hT
  clear hT
  subst hc
  clear hb hb' hm q4 q5
  go_enter Try.func34, Try.ntmps34
  go_wp2_with fail
  go_still_tail 9, (by kernel_rfl)
  change wpList _ _ _ _ _ w.drew
  go_wp2_with fail
  refine (takeL_yes gl A n cap b p _ _ hn hp hbt wd hask _ (HR.out.chg ((Chg.refl [] w).drew) (by simp) (fun _ _ _ => by simp))).mono ?_
  rintro e w1 ⟨rfl, hC, hR⟩
  rw [← HT.out]
  have hb1 := hp_chg (W := w.drew) HBX.out hC (by simp; omega)
  have hm1 := (HM.out.drewN 1).take hC hR
  have hC1 : Chg S w w1 := ((Chg.refl S w).drew).trans (hC.mono (by simpa using hglS))
  have k2 := hp_cell (j := 2) hb1 rfl
  have k3 := hp_cell (j := 3) hb1 rfl
  have k4 := hp_cell (j := 4) hb1 rfl
  have k5 := hp_cell (j := 5) hb1 rfl
  have k6 := hp_cell (j := 6) hb1 rfl
  have k9 := hp_cell (j := 9) hb1 rfl
  have ff := fun j => hp_froz hb1 j
  have HM1 := Lib.hid hm1
  have HB1 := Lib.hid hb1
  have HC1 := Lib.hid hC1
  clear hC hR hb1 hm1 hC1 c0 c3 c7 HR HM HBX
  have hW3 : W3 g 2 sz wd nx w1 := ⟨k2, k3, k4, ff⟩
  have HW3 := Lib.hid hW3
  clear hW3
  go_wp2_with (first | (go_at_call 40; refine (clear_c g 2 sz c hs hcl _ k2).mono ?_; rintro e w' ⟨rfl, rfl⟩))
  refine (reset_w g 2 sz wd nx hs _ HW3.out).mono ?_
  rintro e w2 ⟨rfl, hS2⟩
  have hb2 := hS2.blk _ _ HB1.out
  have hm2 := HM1.out.setG hS2.chg (by simp)
  have hC2 := HC1.out.trans (hS2.chg.mono (by simpa using hgS))
  have l5 := hp_cell (j := 5) hb2 rfl
  have l6 := hp_cell (j := 6) hb2 rfl
  have lf := fun j => hp_froz hb2 j
  have HM2 := Lib.hid hm2
  have HB2 := Lib.hid hb2
  have HC2 := Lib.hid hC2
  clear hS2 hb2 hm2 hC2 k2 k3 k4 k5 k6 k9 ff
  go_wp2
  go_end0
  have hc3 : Chg [g] w2 ((w2.setCell ⟨g, 5, none⟩ (.slice none 0 0)).setCell ⟨g, 6, none⟩ (.int .i64 (-1))) := (((Chg.refl _ w2).set (.inl (by simp)) _ _).set (.inl (by simp)) _ _)
  have hb3 := heap_set (i := 6) (x := .int .i64 (-1)) (heap_set (i := 5) (x := .slice none 0 0) HB2.out)
  refine ⟨rfl, _, ?_, (HM2.out.nilTab).setG hc3 (by simp), HC2.out.trans (hc3.mono (by simpa using hgS))⟩
  unfold LzBox
  rw [show c = 2 ^ sz from hcl.out]
  exact hb3
set_option maxRecDepth 100000 in
set_option maxHeartbeats 2000000 in
theorem one_fin (g gl : Nat) (A : Option Addr) (n cap : Nat) (b : Nat → Nat) (hbt : ∀ i, b i < 256) (most sz cl : Nat) (hcl : Hid (cl = 2 ^ sz)) (hs : sz ≤ 8) (hc4 : 4 ≤ cl ∧ cl ≤ 256) (p wd nx : Nat) (vt vw vo : Value) (lc : Int) (er : Int) (t : List (Nat × Nat)) (o : List Nat) (S : List Nat)
    (hn : n ≤ 1000000) (hp : p ≤ 8 * n) (hk : p + wd ≤ 8 * n) (hwd : wd ≤ 12) (c : Nat) (hT : c = takeL b p wd) (hc : c = cl + 1) (w : World)
    (hb : LzBox g gl most sz wd nx vt lc vw vo false er w) (hm : LzMem g gl A n cap b p vt vw vo t [] o S w) :
    Calls Try.prog 34 #[.pointer (some ⟨g, 0, none⟩)] w fun e w' => e = .returned (.tuple #[]) ∧ LzBox g gl most sz wd nx vt lc vw vo true er w' ∧ LzMem g gl A n cap b (p + wd) vt vw vo t [] o S w' ∧ Chg S w w' := by
  have hask : askB (wd : Nat) (8 * n - p) = true := by unfold askB; simp; omega
  obtain ⟨Aw, cw, rfl, q1, q2, q3, q4, q5⟩ := hm.wts
  have hb' : w.heap[g]? = _ := hb
  have c0 := hp_cell (j := 0) hb' rfl
  have c3 := hp_cell (j := 3) hb' rfl
  have c7 := hp_cell (j := 7) hb' rfl
  have hgl := hm.glg
  have HR := Lib.hid hm.rd
  have HM := Lib.hid hm
  have HBX := Lib.hid hb'
  have hglS := hm.s2
  have hgS := hm.s1
  have HT := Lib.hid hT
  clear hT
  clear hb hb' hm q4 q5
  go_enter Try.func34, Try.ntmps34
  go_wp2_with fail
  go_still_tail 9, (by kernel_rfl)
  change wpList _ _ _ _ _ w.drew
  go_wp2_with fail
  refine (takeL_yes gl A n cap b p _ _ hn hp hbt wd hask _ (HR.out.chg ((Chg.refl [] w).drew) (by simp) (fun _ _ _ => by simp))).mono ?_
  rintro e w1 ⟨rfl, hC, hR⟩
  rw [← HT.out]
  have hb1 := hp_chg (W := w.drew) HBX.out hC (by simp; omega)
  have hm1 := (HM.out.drewN 1).take hC hR
  have hC1 : Chg S w w1 := ((Chg.refl S w).drew).trans (hC.mono (by simpa using hglS))
  have k2 := hp_cell (j := 2) hb1 rfl
  have k3 := hp_cell (j := 3) hb1 rfl
  have k4 := hp_cell (j := 4) hb1 rfl
  have k5 := hp_cell (j := 5) hb1 rfl
  have k6 := hp_cell (j := 6) hb1 rfl
  have k9 := hp_cell (j := 9) hb1 rfl
  have ff := fun j => hp_froz hb1 j
  have HM1 := Lib.hid hm1
  have HB1 := Lib.hid hb1
  have HC1 := Lib.hid hC1
  clear hC hR hb1 hm1 hC1 c0 c3 c7 HR HM HBX
  have n1 : ((c : Int) == (cl : Int)) = false := by rw [beq_eq_false_iff_ne]; omega
  have n2 : (c == cl) = false := by rw [beq_eq_false_iff_ne]; omega
  have n3 : ((c : Int) == (cl : Int) + 1) = true := by rw [beq_iff_eq]; omega
  have HC := Lib.hid hc
  clear hc
  go_wp2_with (first | (go_at_call 40; refine (clear_c g 2 sz cl hs hcl _ k2).mono ?_; rintro e w' ⟨rfl, rfl⟩))
  go_end0
  have hc3 : Chg [g] w1 (w1.setCell ⟨g, 9, none⟩ (.bool true)) := ((Chg.refl _ w1).set (.inl (by simp)) _ _)
  exact ⟨rfl, heap_set HB1.out, HM1.out.setG hc3 (by simp), HC1.out.trans (hc3.mono (by simpa using hgS))⟩
set_option maxRecDepth 100000 in
set_option maxHeartbeats 2000000 in
theorem one_first (g gl : Nat) (A : Option Addr) (n cap : Nat) (b : Nat → Nat) (hbt : ∀ i, b i < 256) (most sz cl : Nat) (hcl : Hid (cl = 2 ^ sz)) (hs : sz ≤ 8) (hc4 : 4 ≤ cl ∧ cl ≤ 256) (p wd nx : Nat) (vt vw vo : Value) (lc : Int) (er : Int) (t : List (Nat × Nat)) (o : List Nat) (S : List Nat)
    (hn : n ≤ 1000000) (hp : p ≤ 8 * n) (hk : p + wd ≤ 8 * n) (hwd : wd ≤ 12) (c : Nat) (hT : c = takeL b p wd) (hc : c < cl) (hlc : lc = -1) (w : World)
    (hb : LzBox g gl most sz wd nx vt lc vw vo false er w) (hm : LzMem g gl A n cap b p vt vw vo t [] o S w) :
    Calls Try.prog 34 #[.pointer (some ⟨g, 0, none⟩)] w fun e w' => e = .returned (.tuple #[]) ∧ ∃ vw', LzBox g gl most sz wd nx vt (c : Nat) vw' vo false er w' ∧ LzMem g gl A n cap b (p + wd) vt vw' vo t [c] o S w' ∧ Chg S w w' := by
  have hask : askB (wd : Nat) (8 * n - p) = true := by unfold askB; simp; omega
  obtain ⟨Aw, cw, rfl, q1, q2, q3, q4, q5⟩ := hm.wts
  have hb' : w.heap[g]? = _ := hb
  have c0 := hp_cell (j := 0) hb' rfl
  have c3 := hp_cell (j := 3) hb' rfl
  have c7 := hp_cell (j := 7) hb' rfl
  have hgl := hm.glg
  have HR := Lib.hid hm.rd
  have HM := Lib.hid hm
  have HBX := Lib.hid hb'
  have hglS := hm.s2
  have hgS := hm.s1
  have HT := Lib.hid hT
  clear hT
  subst hlc
  clear hb hb' hm q4 q5
  go_enter Try.func34, Try.ntmps34
  go_wp2_with fail
  go_still_tail 9, (by kernel_rfl)
  change wpList _ _ _ _ _ w.drew
  go_wp2_with fail
  refine (takeL_yes gl A n cap b p _ _ hn hp hbt wd hask _ (HR.out.chg ((Chg.refl [] w).drew) (by simp) (fun _ _ _ => by simp))).mono ?_
  rintro e w1 ⟨rfl, hC, hR⟩
  rw [← HT.out]
  have hb1 := hp_chg (W := w.drew) HBX.out hC (by simp; omega)
  have hm1 := (HM.out.drewN 1).take hC hR
  have hC1 : Chg S w w1 := ((Chg.refl S w).drew).trans (hC.mono (by simpa using hglS))
  have k2 := hp_cell (j := 2) hb1 rfl
  have k3 := hp_cell (j := 3) hb1 rfl
  have k4 := hp_cell (j := 4) hb1 rfl
  have k5 := hp_cell (j := 5) hb1 rfl
  have k6 := hp_cell (j := 6) hb1 rfl
  have k9 := hp_cell (j := 9) hb1 rfl
  have ff := fun j => hp_froz hb1 j
  have HM1 := Lib.hid hm1
  have HB1 := Lib.hid hb1
  have HC1 := Lib.hid hC1
  clear hC hR hb1 hm1 hC1 c0 c3 c7 HR HM HBX
  have n1 : ((c : Int) == (cl : Int)) = false := by rw [beq_eq_false_iff_ne]; omega
  have n2 : (c == cl) = false := by rw [beq_eq_false_iff_ne]; omega
  have n3 : ((c : Int) == (cl : Int) + 1) = false := by rw [beq_eq_false_iff_ne]; omega
  go_wp2_with (first | (go_at_call 40; refine (clear_c g 2 sz cl hs hcl _ k2).mono ?_; rintro e w' ⟨rfl, rfl⟩))
  refine (first_yes g gl A n cap b most sz cl hcl hs hc4 (p + wd) wd nx vt _ vo (-1) false er t [] o S c hc _ HB1.out HM1.out).mono ?_
  rintro e w2 ⟨rfl, vw', hb2, hm2, hC2⟩
  have HM2 := Lib.hid hm2
  have HB2 := Lib.hid hb2
  have HC2 := Lib.hid hC2
  clear hb2 hm2 hC2
  go_wp2
  go_end0
  exact ⟨rfl, vw', HB2.out, HM2.out, HC1.out.trans HC2.out⟩
set_option maxRecDepth 100000 in
set_option maxHeartbeats 2000000 in
theorem one_bad1 (g gl : Nat) (A : Option Addr) (n cap : Nat) (b : Nat → Nat) (hbt : ∀ i, b i < 256) (most sz cl : Nat) (hcl : Hid (cl = 2 ^ sz)) (hs : sz ≤ 8) (hc4 : 4 ≤ cl ∧ cl ≤ 256) (p wd nx : Nat) (vt vw vo : Value) (lc : Int) (er : Int) (t : List (Nat × Nat)) (o : List Nat) (S : List Nat)
    (hn : n ≤ 1000000) (hp : p ≤ 8 * n) (hk : p + wd ≤ 8 * n) (hwd : wd ≤ 12) (c : Nat) (hT : c = takeL b p wd) (hc : ¬ c < cl) (hc0 : c ≠ cl) (hc1 : c ≠ cl + 1) (hlc : lc = -1) (w : World)
    (hb : LzBox g gl most sz wd nx vt lc vw vo false er w) (hm : LzMem g gl A n cap b p vt vw vo t [] o S w) :
    Calls Try.prog 34 #[.pointer (some ⟨g, 0, none⟩)] w fun e w' => PanE 4 e ∧ LzBox g gl most sz wd nx vt lc vw vo false er w' ∧ LzMem g gl A n cap b (p + wd) vt vw vo t [] o S w' ∧ Chg S w w' := by
  have hask : askB (wd : Nat) (8 * n - p) = true := by unfold askB; simp; omega
  obtain ⟨Aw, cw, rfl, q1, q2, q3, q4, q5⟩ := hm.wts
  have hb' : w.heap[g]? = _ := hb
  have c0 := hp_cell (j := 0) hb' rfl
  have c3 := hp_cell (j := 3) hb' rfl
  have c7 := hp_cell (j := 7) hb' rfl
  have hgl := hm.glg
  have HR := Lib.hid hm.rd
  have HM := Lib.hid hm
  have HBX := Lib.hid hb'
  have hglS := hm.s2
  have hgS := hm.s1
  have HT := Lib.hid hT
  clear hT
  subst hlc
  clear hb hb' hm q4 q5
  go_enter Try.func34, Try.ntmps34
  go_wp2_with fail
  go_still_tail 9, (by kernel_rfl)
  change wpList _ _ _ _ _ w.drew
  go_wp2_with fail
  refine (takeL_yes gl A n cap b p _ _ hn hp hbt wd hask _ (HR.out.chg ((Chg.refl [] w).drew) (by simp) (fun _ _ _ => by simp))).mono ?_
  rintro e w1 ⟨rfl, hC, hR⟩
  rw [← HT.out]
  have hb1 := hp_chg (W := w.drew) HBX.out hC (by simp; omega)
  have hm1 := (HM.out.drewN 1).take hC hR
  have hC1 : Chg S w w1 := ((Chg.refl S w).drew).trans (hC.mono (by simpa using hglS))
  have k2 := hp_cell (j := 2) hb1 rfl
  have k3 := hp_cell (j := 3) hb1 rfl
  have k4 := hp_cell (j := 4) hb1 rfl
  have k5 := hp_cell (j := 5) hb1 rfl
  have k6 := hp_cell (j := 6) hb1 rfl
  have k9 := hp_cell (j := 9) hb1 rfl
  have ff := fun j => hp_froz hb1 j
  have HM1 := Lib.hid hm1
  have HB1 := Lib.hid hb1
  have HC1 := Lib.hid hC1
  clear hC hR hb1 hm1 hC1 c0 c3 c7 HR HM HBX
  have n1 : ((c : Int) == (cl : Int)) = false := by rw [beq_eq_false_iff_ne]; omega
  have n2 : (c == cl) = false := by rw [beq_eq_false_iff_ne]; omega
  have n3 : ((c : Int) == (cl : Int) + 1) = false := by rw [beq_eq_false_iff_ne]; omega
  go_wp2_with (first | (go_at_call 40; refine (clear_c g 2 sz cl hs hcl _ k2).mono ?_; rintro e w' ⟨rfl, rfl⟩))
  refine (first_no g gl most sz cl hcl hs p wd nx vt _ vo (-1) false er c hc _ HB1.out).mono ?_
  rintro e w2 ⟨rfl, rfl⟩
  go_wp2
  exact ⟨rfl, rfl, HB1.out, HM1.out, HC1.out⟩
set_option maxRecDepth 100000 in
set_option maxHeartbeats 2000000 in
theorem one_further (g gl : Nat) (A : Option Addr) (n cap : Nat) (b : Nat → Nat) (hbt : ∀ i, b i < 256) (most sz cl : Nat) (hcl : Hid (cl = 2 ^ sz)) (hs : sz ≤ 8) (hc4 : 4 ≤ cl ∧ cl ≤ 256) (p wd nx : Nat) (vt vw vo : Value) (lc : Nat) (er : Int) (t : List (Nat × Nat)) (o : List Nat) (S : List Nat)
    (hn : n ≤ 1000000) (hp : p ≤ 8 * n) (hk : p + wd ≤ 8 * n) (hwd : wd ≤ 12) (c : Nat) (hT : c = takeL b p wd) (hc0 : c ≠ cl) (hc1 : c ≠ cl + 1) (rows : List (List Nat)) (L l0 : List Nat) (hnx : Hid (nx = cl + 2 + rows.length)) (hfull : nx ≤ 4096) (hT2 : TabOk cl rows t) (hl0 : rowOf cl rows lc = some l0) (hl0l : l0.length ≤ 4999) (hl0p : 0 < l0.length) (hc : (c < nx ∧ rowOf cl rows c = some L) ∨ (c = nx ∧ c < 4096 ∧ L = l0 ++ [l0.headD 0])) (hLl : L.length ≤ 5000) (hLp : 0 < L.length) (h256 : ∀ x ∈ L, x < 256) (hlc : lc < 4096) (w : World)
    (hb : LzBox g gl most sz wd nx vt lc vw vo false er w) (hm : LzMem g gl A n cap b p vt vw vo t [] o S w) :
    Calls Try.prog 34 #[.pointer (some ⟨g, 0, none⟩)] w fun e w' => e = .returned (.tuple #[]) ∧ ∃ vt' vw' t' S', (nx < 4096 → t' = t ++ [(lc, L.headD 0)]) ∧ (¬ nx < 4096 → t' = t) ∧ LzBox g gl most sz (growB wd nx) (growN nx) vt' (c : Nat) vw' vo false er w' ∧ LzMem g gl A n cap b (p + wd) vt' vw' vo t' L o S' w' ∧ More S S' w ∧ Chg S w w' := by
  have hask : askB (wd : Nat) (8 * n - p) = true := by unfold askB; simp; omega
  obtain ⟨Aw, cw, rfl, q1, q2, q3, q4, q5⟩ := hm.wts
  have hb' : w.heap[g]? = _ := hb
  have c0 := hp_cell (j := 0) hb' rfl
  have c3 := hp_cell (j := 3) hb' rfl
  have c7 := hp_cell (j := 7) hb' rfl
  have hgl := hm.glg
  have HR := Lib.hid hm.rd
  have HM := Lib.hid hm
  have HBX := Lib.hid hb'
  have hglS := hm.s2
  have hgS := hm.s1
  have HT := Lib.hid hT
  clear hT
  clear hb hb' hm q4 q5
  go_enter Try.func34, Try.ntmps34
  go_wp2_with fail
  go_still_tail 9, (by kernel_rfl)
  change wpList _ _ _ _ _ w.drew
  go_wp2_with fail
  refine (takeL_yes gl A n cap b p _ _ hn hp hbt wd hask _ (HR.out.chg ((Chg.refl [] w).drew) (by simp) (fun _ _ _ => by simp))).mono ?_
  rintro e w1 ⟨rfl, hC, hR⟩
  rw [← HT.out]
  have hb1 := hp_chg (W := w.drew) HBX.out hC (by simp; omega)
  have hm1 := (HM.out.drewN 1).take hC hR
  have hC1 : Chg S w w1 := ((Chg.refl S w).drew).trans (hC.mono (by simpa using hglS))
  have k2 := hp_cell (j := 2) hb1 rfl
  have k3 := hp_cell (j := 3) hb1 rfl
  have k4 := hp_cell (j := 4) hb1 rfl
  have k5 := hp_cell (j := 5) hb1 rfl
  have k6 := hp_cell (j := 6) hb1 rfl
  have k9 := hp_cell (j := 9) hb1 rfl
  have ff := fun j => hp_froz hb1 j
  have HM1 := Lib.hid hm1
  have HB1 := Lib.hid hb1
  have HC1 := Lib.hid hC1
  clear hC hR hb1 hm1 hC1 c0 c3 c7 HR HM HBX
  have n1 : ((c : Int) == (cl : Int)) = false := by rw [beq_eq_false_iff_ne]; omega
  have n2 : (c == cl) = false := by rw [beq_eq_false_iff_ne]; omega
  have n3 : ((c : Int) == (cl : Int) + 1) = false := by rw [beq_eq_false_iff_ne]; omega
  have n4 : ((lc : Int) == -1) = false := by rw [beq_eq_false_iff_ne]; omega
  have HC := Lib.hid hc
  have HL0 := Lib.hid hl0
  clear hc hl0
  go_wp2_with (first | (go_at_call 40; refine (clear_c g 2 sz cl hs hcl _ k2).mono ?_; rintro e w' ⟨rfl, rfl⟩))
  refine (further_yes g gl A n cap b most sz cl hcl hs hc4 (p + wd) wd nx vt _ vo lc false er rows t [] o S c L l0 hnx hfull hwd hT2 HL0.out hl0l hl0p HC.out hLl hLp h256 hlc _ HB1.out HM1.out).mono ?_
  rintro e w2 ⟨rfl, vt', vw', t', S', ht1, ht2, hb2, hm2, hMo, hC2⟩
  have HM2 := Lib.hid hm2
  have HB2 := Lib.hid hb2
  have HC2 := Lib.hid hC2
  have HMo : Hid (More S S' w) := Lib.hid (fun k hk => by
    rcases hMo k hk with h9 | h9
    · exact .inl h9
    · exact .inr (Nat.le_trans HC1.out.size h9))
  have H1 := Lib.hid ht1
  have H2 := Lib.hid ht2
  clear hb2 hm2 hC2 hMo ht1 ht2
  go_wp2
  go_end0
  exact ⟨rfl, vt', vw', t', S', H1.out, H2.out, HB2.out, HM2.out, HMo.out, HC1.out.trans HC2.out⟩
set_option maxRecDepth 100000 in
set_option maxHeartbeats 2000000 in
theorem one_bad2 (g gl : Nat) (A : Option Addr) (n cap : Nat) (b : Nat → Nat) (hbt : ∀ i, b i < 256) (most sz cl : Nat) (hcl : Hid (cl = 2 ^ sz)) (hs : sz ≤ 8) (hc4 : 4 ≤ cl ∧ cl ≤ 256) (p wd nx : Nat) (vt vw vo : Value) (lc : Nat) (er : Int) (t : List (Nat × Nat)) (o : List Nat) (S : List Nat)
    (hn : n ≤ 1000000) (hp : p ≤ 8 * n) (hk : p + wd ≤ 8 * n) (hwd : wd ≤ 12) (c : Nat) (hT : c = takeL b p wd) (hc : nx < c)  (hnx2 : cl + 2 ≤ nx) (w : World)
    (hb : LzBox g gl most sz wd nx vt lc vw vo false er w) (hm : LzMem g gl A n cap b p vt vw vo t [] o S w) :
    Calls Try.prog 34 #[.pointer (some ⟨g, 0, none⟩)] w fun e w' => PanE 4 e ∧ LzBox g gl most sz wd nx vt lc vw vo false er w' ∧ LzMem g gl A n cap b (p + wd) vt vw vo t [] o S w' ∧ Chg S w w' := by
  have hask : askB (wd : Nat) (8 * n - p) = true := by unfold askB; simp; omega
  obtain ⟨Aw, cw, rfl, q1, q2, q3, q4, q5⟩ := hm.wts
  have hb' : w.heap[g]? = _ := hb
  have c0 := hp_cell (j := 0) hb' rfl
  have c3 := hp_cell (j := 3) hb' rfl
  have c7 := hp_cell (j := 7) hb' rfl
  have hgl := hm.glg
  have HR := Lib.hid hm.rd
  have HM := Lib.hid hm
  have HBX := Lib.hid hb'
  have hglS := hm.s2
  have hgS := hm.s1
  have HT := Lib.hid hT
  clear hT
  have hc0 : c ≠ cl := by omega
  have hc1 : c ≠ cl + 1 := by omega
  clear hb hb' hm q4 q5
  go_enter Try.func34, Try.ntmps34
  go_wp2_with fail
  go_still_tail 9, (by kernel_rfl)
  change wpList _ _ _ _ _ w.drew
  go_wp2_with fail
  refine (takeL_yes gl A n cap b p _ _ hn hp hbt wd hask _ (HR.out.chg ((Chg.refl [] w).drew) (by simp) (fun _ _ _ => by simp))).mono ?_
  rintro e w1 ⟨rfl, hC, hR⟩
  rw [← HT.out]
  have hb1 := hp_chg (W := w.drew) HBX.out hC (by simp; omega)
  have hm1 := (HM.out.drewN 1).take hC hR
  have hC1 : Chg S w w1 := ((Chg.refl S w).drew).trans (hC.mono (by simpa using hglS))
  have k2 := hp_cell (j := 2) hb1 rfl
  have k3 := hp_cell (j := 3) hb1 rfl
  have k4 := hp_cell (j := 4) hb1 rfl
  have k5 := hp_cell (j := 5) hb1 rfl
  have k6 := hp_cell (j := 6) hb1 rfl
  have k9 := hp_cell (j := 9) hb1 rfl
  have ff := fun j => hp_froz hb1 j
  have HM1 := Lib.hid hm1
  have HB1 := Lib.hid hb1
  have HC1 := Lib.hid hC1
  clear hC hR hb1 hm1 hC1 c0 c3 c7 HR HM HBX
  have n1 : ((c : Int) == (cl : Int)) = false := by rw [beq_eq_false_iff_ne]; omega
  have n2 : (c == cl) = false := by rw [beq_eq_false_iff_ne]; omega
  have n3 : ((c : Int) == (cl : Int) + 1) = false := by rw [beq_eq_false_iff_ne]; omega
  have n4 : ((lc : Int) == -1) = false := by rw [beq_eq_false_iff_ne]; omega
  go_wp2_with (first | (go_at_call 40; refine (clear_c g 2 sz cl hs hcl _ k2).mono ?_; rintro e w' ⟨rfl, rfl⟩))
  refine (further_no g gl most sz wd nx vt _ vo lc false er c hc _ HB1.out).mono ?_
  rintro e w2 ⟨rfl, rfl⟩
  go_wp2
  exact ⟨rfl, rfl, HB1.out, HM1.out, HC1.out⟩
end Go.Proofs.Ytioghgnngdcicaa
