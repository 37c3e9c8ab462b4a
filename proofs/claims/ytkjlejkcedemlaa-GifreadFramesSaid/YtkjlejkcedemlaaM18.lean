/- gifread.tried: what a closure broke with. gifread.Decode. A GIF file of any codes, with whatever behind it, is read by the document: the plain law. A GIF file that is cut short is told so: the plain law. The plainest GIF file of a picture: the plain law. gifread.Decode of the plainest file. -/
import Derived.Test.YtkjlejkcedemlaaM17

namespace Go.Proofs.Ytkjlejkcedemlaa
set_option maxRecDepth 100000
set_option linter.unusedVariables false
open Go.ChangeShapes Go.WideShapes Go.ChangeAt Go.RowKit

set_option maxRecDepth 100000 in
theorem gcatch_idle (p : Addr) (w : World) :
    CallsD Try.prog 33 #[.pointer (some p)] .returning w fun e u' w' => e = .returned (.tuple #[]) ∧ u' = .returning ∧ w' = w := by
  refine callsD_of_wpS Try.func33 rfl fun c₀ cs hu => ?_
  apply wpS_seq
  apply wpS_region
  simp [wpOpsS, go_sem, recoverD, hu, Try.ntmps33, Exit.thenS]
  refine wpS_of_wp ?_
  simp only [Array.replicate, List.replicate]
  go_wp2
  cases c₀
  simp_all [bodyPostS, results, Try.results33]
set_option maxRecDepth 100000 in
theorem gcatch_err (p : Addr) (x : Value) (k : Int) (older : List PanicEntry) (w : World) (hc : w.cell? p = some x) (hz : w.frozen? p = false) :
    CallsD Try.prog 33 #[.pointer (some p)] (.panicking ({ v := .iface 27 (.int .i64 k), recovered := false } :: older)) w fun e u' w' =>
      e = .returned (.tuple #[]) ∧ u' = .panicking ({ v := .iface 27 (.int .i64 k), recovered := true } :: older) ∧ w' = w.setCell p (.int .i64 k) := by
  have t2 := ta2
  refine callsD_of_wpS Try.func33 rfl fun c₀ cs hu => ?_
  apply wpS_seq
  apply wpS_region
  simp [wpOpsS, go_sem, recoverD, hu, Try.ntmps33, Exit.thenS]
  refine wpS_of_wp ?_
  simp only [Array.replicate, List.replicate]
  go_wp2
  cases c₀
  simp_all [bodyPostS, results, Try.results33]
set_option maxRecDepth 100000 in
set_option maxHeartbeats 1000000 in
theorem gtried (k : FuncId) (caps : Array Value) (hent : EntersL k caps) (w : World) (R : World → Prop) (Q : Nat → World → Prop)
    (hk : Calls Try.prog k caps (w.alloc (.cells #[.int .i64 0] 27)) fun e w' => w'.heap[w.heap.size]? = some (.cells #[.int .i64 0] 27 (0, 0)) ∧ ((e = .returned (.tuple #[]) ∧ R w') ∨ (∃ q : Nat, PanE (q : Nat) e ∧ Q q w'))) :
    Calls Try.prog 21 #[.func (.func k) #[] caps] w fun e w' => ∃ (q : Nat) (w1 : World), e = .returned (.int .i64 (q : Nat)) ∧ w1.heap[w.heap.size]? = some (.cells #[.int .i64 0] 27 (0, 0)) ∧
      w' = w1.setCell ⟨w.heap.size, 0, none⟩ (.int .i64 (q : Nat)) ∧ ((q = 0 ∧ R w1) ∨ Q q w1) := by
  have hmf : ∀ (fn : Fn) (first cap : Array Value) (w : World), (Instr.makeFunc fn first cap).run Try.prog w = .ok (.func fn first cap) w := fun _ _ _ _ => rfl
  go_enter_defers Try.func21, Try.ntmps21
  go_wp2_with fail
  rw [hent, Oper.upon_enter]
  refine hk.mono ?_
  rintro e w1 ⟨hb, hd⟩
  have h0 : w1.cell? ⟨w.heap.size, 0, none⟩ = some (.int .i64 0) := by simp [World.cell?, hb]
  have hf : ∀ j, w1.frozen? ⟨w.heap.size, j, none⟩ = false := fun j => by simp [World.frozen?, hb]
  have hl : w.heap.size < w1.heap.size := (Array.getElem?_eq_some_iff.1 hb).1
  have he := (Array.getElem?_eq_some_iff.1 hb).2
  have h1 : ∀ q : Int, (w1.setCell ⟨w.heap.size, 0, none⟩ (.int .i64 q)).cell? ⟨w.heap.size, 0, none⟩ = some (.int .i64 q) := fun q => by simp [World.cell?, World.setCell, hl, he, Array.getElem_modify]
  have HB := Lib.hid hb
  have HH1 := Lib.hid h1
  clear hb he h1 hk
  rcases hd with ⟨rfl, hR⟩ | ⟨q, rfl, hQ⟩
  · go_wp2
    refine leaves_cons (f := 33) (args := #[.pointer (some ⟨w.heap.size, 0, none⟩)]) (by simp) (by simp [go_sem]) ?_
    refine (gcatch_idle ⟨w.heap.size, 0, none⟩ _).mono ?_
    rintro e u' w'' ⟨rfl, rfl, rfl⟩
    refine ⟨.int .i64 0, ?_, ?_⟩
    · simp [results, Try.results21, go_sem, HH1.out 0]
    · exact ⟨0, w1, rfl, HB.out, rfl, .inl ⟨rfl, hR⟩⟩
  · go_wp2
    refine leaves_cons (f := 33) (args := #[.pointer (some ⟨w.heap.size, 0, none⟩)]) (by simp) (by simp [go_sem]) ?_
    refine (gcatch_err ⟨w.heap.size, 0, none⟩ _ q [] _ h0 (hf 0)).mono ?_
    rintro e u' w'' ⟨rfl, rfl, rfl⟩
    simp [Leaves, settle, results, Try.results21, go_sem, HH1.out]
    exact ⟨q, rfl, w1, HB.out, rfl, .inr hQ⟩
end Go.Proofs.Ytkjlejkcedemlaa

namespace Go.Proofs.Ytkjlejkcedemlaa
set_option maxRecDepth 100000
set_option linter.unusedVariables false
open Go.ChangeShapes Go.WideShapes Go.ChangeAt Go.RowKit

set_option maxRecDepth 100000 in
set_option maxHeartbeats 2000000 in
theorem gclo (g m bx rv : Nat) (b : Nat → Nat) (hbt : ∀ i, b i < 256) (hsm : m ≤ 262144) (h13 : 13 ≤ m) (w : World) (hG : GdS g m 0 b (.slice none 0 0) (-1) w) (W H : Nat) (hW : lowD b 6 2 = W) (hH : lowD b 8 2 = H)
    (hbx : w.heap[bx]? = some (.cells #[.pointer (some ⟨g, 0, none⟩)] 51 (0, 0))) (hrv : w.heap[rv]? = some (.cells #[.int .i64 0, .int .i64 0, .slice none 0 0] 26 (0, 0))) (hne : g < rv) :
    Calls Try.prog 22 #[.pointer (some ⟨bx, 0, none⟩), .pointer (some ⟨rv, 0, none⟩)] w fun e w' => Chg [g, rv] w w' ∧ (((headG b m W H).2 = 0 ∧ e = .returned (.tuple #[]) ∧ ∃ ga cap, w.heap.size ≤ ga ∧ 4 * (W * H) ≤ cap ∧ cap ≤ maxLen ∧ w'.heap[rv]? = some (.cells #[.int .i64 (W : Nat), .int .i64 (H : Nat), .slice (some ⟨ga, 0, none⟩) (4 * (W * H)) cap] 26 (0, 0)) ∧ Own 0 w' (some ⟨ga, 0, none⟩) (4 * (W * H)) (headG b m W H).1) ∨ ((headG b m W H).2 ≠ 0 ∧ PanE ((headG b m W H).2 : Nat) e)) := by
  have c0 := hp_cell (j := 0) hbx rfl
  have HP := Lib.hid (picture_g g m b hbt hsm h13 w hG W H hW hH)
  have HRV := Lib.hid hrv
  have hrl := lt_heap hrv
  clear hG hbx hrv hW hH
  obtain ⟨r, hr⟩ : ∃ r, r = headG b m W H := ⟨_, rfl⟩
  rw [← hr] at HP ⊢
  clear hr
  go_enter Try.func22, Try.ntmps22
  go_wp2_with fail
  refine HP.out.mono ?_
  rintro e w1 ⟨hC, ⟨h0, ga, cap, hga, hn, hc, rfl, hO⟩ | ⟨h0, hpe⟩⟩
  · have hrv1 := hp_chg HRV.out hC (by simp; omega)
    have l0 := hp_cell (j := 0) hrv1 rfl
    have l1 := hp_cell (j := 1) hrv1 rfl
    have l2 := hp_cell (j := 2) hrv1 rfl
    have lf := hp_froz hrv1
    have HC := Lib.hid (((((hC.mono (T := [g, rv]) (by simp)).set (g := rv) (.inl (by simp)) 0 (.int .i64 (W : Nat))).set (g := rv) (.inl (by simp)) 1 (.int .i64 (H : Nat))).set (g := rv) (.inl (by simp)) 2 (.slice (some ⟨ga, 0, none⟩) (4 * (W * H)) cap)))
    have HV := Lib.hid (heap_set (i := 2) (x := .slice (some ⟨ga, 0, none⟩) (4 * (W * H)) cap) (heap_set (i := 1) (x := .int .i64 (H : Nat)) (heap_set (i := 0) (x := .int .i64 (W : Nat)) hrv1)))
    have hgr : rv ≠ ga := by omega
    have HO : Hid (Own 0 (((w1.setCell ⟨rv, 0, none⟩ (.int .i64 (W : Nat))).setCell ⟨rv, 1, none⟩ (.int .i64 (H : Nat))).setCell ⟨rv, 2, none⟩ (.slice (some ⟨ga, 0, none⟩) (4 * (W * H)) cap)) (some ⟨ga, 0, none⟩) (4 * (W * H)) r.1) := Lib.hid (fun h9 => by
      obtain ⟨k, cur, he, h1, hg, h2⟩ := hO h9
      cases he
      exact ⟨ga, cur, rfl, h1, hp_oth (hp_oth (hp_oth hg (fun e => hgr e.symm)) (fun e => hgr e.symm)) (fun e => hgr e.symm), h2⟩)
    have H0 := Lib.hid h0
    clear hC hO hrv1 h0
    go_wp2_with fail
    go_end0
    exact ⟨HC.out, .inl ⟨H0.out, rfl, ga, cap, hga, hn, hc, HV.out, HO.out⟩⟩
  · have HC := Lib.hid (hC.mono (T := [g, rv]) (by simp))
    have H0 := Lib.hid h0
    clear hC h0
    obtain rfl := hpe
    go_wp2_with fail
    exact ⟨rfl, HC.out, .inr ⟨H0.out, rfl⟩⟩
theorem gent : ∀ x y : Nat, EntersL 22 #[.pointer (some ⟨x, 0, none⟩), .pointer (some ⟨y, 0, none⟩)] := fun x y W => by kernel_rfl
set_option maxRecDepth 100000 in
set_option maxHeartbeats 4000000 in
theorem decode_g (A : Option Addr) (m cap : Nat) (b : Nat → Nat) (hbt : ∀ i, b i < 256) (hm : m ≤ cap) (hmax : cap ≤ maxLen) (hA : A = none → cap = 0) (w : World) (hB : Byt w A m b) :
    Calls Try.prog 9 #[.slice A m cap] w (picPost (lowD b 6 2) (lowD b 8 2) (gifG b m) w) := by
  have HB := Lib.hid hB
  have HBT := Lib.hid hbt
  have HA := Lib.hid hA
  have HMX := Lib.hid hmax
  unfold maxLen at hmax
  clear hB hbt hA
  obtain ⟨r, hr⟩ : ∃ r, r = gifG b m := ⟨_, rfl⟩
  rw [← hr]
  unfold gifG at hr
  have HR := Lib.hid hr
  clear hr
  obtain ⟨W, hW⟩ : ∃ W, lowD b 6 2 = W := ⟨_, rfl⟩
  obtain ⟨H, hH⟩ : ∃ H, lowD b 8 2 = H := ⟨_, rfl⟩
  rw [hW, hH]
  have HW := Lib.hid hW
  have HH := Lib.hid hH
  have hr0 := hp_new0 w (.cells #[.int .i64 0, .int .i64 0, .slice none 0 0] 26)
  have hW0 : Below w.heap.size w (w.alloc (.cells #[.int .i64 0, .int .i64 0, .slice none 0 0] 26)) := (Below.refl _ w).alloc (Nat.le_refl _) _
  have l0 := hp_cell (j := 0) hr0 rfl
  have l1 := hp_cell (j := 1) hr0 rfl
  have l2 := hp_cell (j := 2) hr0 rfl
  have lf : ∀ j, (w.alloc (.cells #[.int .i64 0, .int .i64 0, .slice none 0 0] 26)).frozen? ⟨w.heap.size, j, none⟩ = false := fun j => by rw [World.frozen?, hr0]; simp
  have HR0 := Lib.hid hr0
  have HW0 := Lib.hid hW0
  have HBW := Lib.hid (HB.out.below hW0)
  have hBel : ∀ (wx : World) (v0 v1 v2 : Value), Below w.heap.size w wx → Below w.heap.size w (((wx.setCell ⟨w.heap.size, 0, none⟩ v0).setCell ⟨w.heap.size, 1, none⟩ v1).setCell ⟨w.heap.size, 2, none⟩ v2) := fun wx v0 v1 v2 h =>
    ((h.setCell (p := ⟨w.heap.size, 0, none⟩) (Nat.le_refl _) _).setCell (p := ⟨w.heap.size, 1, none⟩) (Nat.le_refl _) _).setCell (p := ⟨w.heap.size, 2, none⟩) (Nat.le_refl _) _
  have HBel := Lib.hid hBel
  clear hr0 hW0 hW hH hBel
  go_enter Try.func9, Try.ntmps9
  by_cases e1 : 262144 < m
  · have t1 : decide (262144 < m) = true := by simp; omega
    have t1' : decide ((262144 : Int) < (m : Int)) = true := by simp; omega
    have hr := HR.out
    rw [if_pos e1] at hr
    have HE := Lib.hid hr
    clear hr
    go_wp2
    refine bodyPost_ret (v := .tuple #[.agg #[.int .i64 0, .int .i64 0, .slice none 0 0], .int .i64 3]) (by rw [results_cell_tmp rfl]; go_simp) rfl ?_
    rw [HE.out]
    exact ⟨by first | exact HW0.out | exact HBel.out _ _ _ _ HW0.out, .inr ⟨by decide, rfl⟩⟩
  have t1 : decide (262144 < m) = false := by simp; omega
  have t1' : decide ((262144 : Int) < (m : Int)) = false := by simp; omega
  by_cases e2 : m < 13
  · have t2 : decide (m < 13) = true := by simp; omega
    have t2' : decide ((m : Int) < 13) = true := by simp; omega
    have hr := HR.out
    rw [if_neg e1, if_pos e2] at hr
    have HE := Lib.hid hr
    clear hr
    go_wp2
    refine bodyPost_ret (v := .tuple #[.agg #[.int .i64 0, .int .i64 0, .slice none 0 0], .int .i64 2]) (by rw [results_cell_tmp rfl]; go_simp) rfl ?_
    rw [HE.out]
    exact ⟨by first | exact HW0.out | exact HBel.out _ _ _ _ HW0.out, .inr ⟨by decide, rfl⟩⟩
  have t2 : decide (m < 13) = false := by simp; omega
  have t2' : decide ((m : Int) < 13) = false := by simp; omega
  have hB6 : Byt (w.alloc (.cells #[.int .i64 0, .int .i64 0, .slice none 0 0] 26)) A 6 b := fun _ => by
    obtain ⟨bk, of, h1, h2, h3⟩ := HBW.out (by omega)
    exact ⟨bk, of, h1, h2, fun j hj => h3 j (by omega)⟩
  have hs := run_str (cap := cap) hB6
  have q7 := is87 b HBT.out
  have q9 := is89 b HBT.out
  obtain ⟨T6, hT6⟩ : ∃ T6, T6 = strB 6 b := ⟨_, rfl⟩
  rw [← hT6] at hs q7 q9
  have RH := run_hi A m cap 6 (by omega)
  rw [show ((6 : Nat) : Int) = 6 from rfl] at RH
  clear hB6 hT6
  by_cases e3 : isGif b = false
  · have hr := HR.out
    rw [if_neg e1, if_neg e2, if_pos e3] at hr
    have HE := Lib.hid hr
    unfold isGif at e3
    simp only [decide_eq_false_iff_not] at e3
    rw [decide_eq_false (fun h => e3 ⟨h.1, h.2.1, h.2.2.1, h.2.2.2.1, .inl h.2.2.2.2.1, h.2.2.2.2.2⟩)] at q7
    rw [decide_eq_false (fun h => e3 ⟨h.1, h.2.1, h.2.2.1, h.2.2.2.1, .inr h.2.2.2.2.1, h.2.2.2.2.2⟩)] at q9
    clear hr e3
    go_wp2_with fail
    refine bodyPost_ret (v := .tuple #[.agg #[.int .i64 0, .int .i64 0, .slice none 0 0], .int .i64 4]) (by rw [results_cell_tmp rfl]; go_simp) rfl ?_
    rw [HE.out]
    exact ⟨by first | exact HW0.out | exact HBel.out _ _ _ _ HW0.out, .inr ⟨by decide, rfl⟩⟩
  have hr := HR.out
  rw [if_neg e1, if_neg e2, if_neg e3, HW.out, HH.out] at hr
  have HE : Hid (r = headG b m W H) := Lib.hid hr
  clear hr HR
  have e4 : b 4 = 55 ∨ b 4 = 57 := by
    unfold isGif at e3
    simp only [decide_eq_false_iff_not, Classical.not_not] at e3
    exact e3.2.2.2.2.1
  have e5 : b 0 = 71 ∧ b 1 = 73 ∧ b 2 = 70 ∧ b 3 = 56 ∧ b 5 = 97 := by
    unfold isGif at e3
    simp only [decide_eq_false_iff_not, Classical.not_not] at e3
    exact ⟨e3.1, e3.2.1, e3.2.2.1, e3.2.2.2.1, e3.2.2.2.2.2⟩
  clear e3
  have e7 : (T6.toList == [71, 73, 70, 56, 55, 97]) = decide (b 4 = 55) := by rw [q7]; simp [e5]
  have e9 : (T6.toList == [71, 73, 70, 56, 57, 97]) = decide (b 4 = 57) := by rw [q9]; simp [e5]
  clear q7 q9 e5
  go_upto_region 5 with fail
  go_cut [17] (fun s23 wx => s23 = .bool false ∧ wx = (w.alloc (.cells #[.int .i64 0, .int .i64 0, .slice none 0 0] 26)))
  case first =>
    rcases e4 with e4 | e4
    · rw [decide_eq_true e4] at e7
      rw [decide_eq_false (by omega)] at e9
      clear e4
      go_wp2_with fail
      go_meet
      exact ⟨rfl, rfl⟩
    · rw [decide_eq_false (by omega)] at e7
      rw [decide_eq_true e4] at e9
      clear e4
      go_wp2_with fail
      go_meet
      exact ⟨rfl, rfl⟩
  case rest =>
  obtain ⟨rfl, rfl⟩ := hcut
  clear e7 e9 hs RH e4 t1 t1' t2 t2' l0 l1 l2 lf
  have hs1 : (w.alloc (.cells #[.int .i64 0, .int .i64 0, .slice none 0 0] 26)).heap.size = w.heap.size + 1 := by simp
  go_upto_region 9 with fail
  obtain ⟨w1, hw1⟩ : ∃ w1, w1 = w.alloc (.cells #[.int .i64 0, .int .i64 0, .slice none 0 0] 26) := ⟨_, rfl⟩
  rw [← hw1] at HR0 HW0 HBW hs1 ⊢
  clear hw1
  have a1 := hp_new0 w1 (.cells #[.slice A m cap, .slice none 0 0, .int .i64 (-1)] 53)
  have b1 : Below w1.heap.size w1 (w1.alloc (.cells #[.slice A m cap, .slice none 0 0, .int .i64 (-1)] 53)) := (Below.refl _ _).alloc (Nat.le_refl _) _
  have s1 : (w1.alloc (.cells #[.slice A m cap, .slice none 0 0, .int .i64 (-1)] 53)).heap.size = w.heap.size + 1 + 1 := by simp [hs1]
  obtain ⟨w2, hw2⟩ : ∃ w2, w2 = w1.alloc (.cells #[.slice A m cap, .slice none 0 0, .int .i64 (-1)] 53) := ⟨_, rfl⟩
  rw [← hw2] at a1 b1 s1 ⊢
  clear hw2
  rw [hs1] at a1
  have a2 := hp_new0 w2 (.cells #[.pointer (some ⟨w.heap.size + 1, 0, none⟩)] 51)
  have b2 : Below w2.heap.size w2 (w2.alloc (.cells #[.pointer (some ⟨w.heap.size + 1, 0, none⟩)] 51)) := (Below.refl _ _).alloc (Nat.le_refl _) _
  have s2 : (w2.alloc (.cells #[.pointer (some ⟨w.heap.size + 1, 0, none⟩)] 51)).heap.size = w.heap.size + 1 + 1 + 1 := by simp [s1]
  obtain ⟨w3, hw3⟩ : ∃ w3, w3 = w2.alloc (.cells #[.pointer (some ⟨w.heap.size + 1, 0, none⟩)] 51) := ⟨_, rfl⟩
  rw [← hw3] at a2 b2 s2 ⊢
  clear hw3
  rw [s1] at a2
  have a3 := hp_new0 w3 (.cells #[.int .i64 0, .int .i64 0, .slice none 0 0] 26)
  have b3 : Below w3.heap.size w3 (w3.alloc (.cells #[.int .i64 0, .int .i64 0, .slice none 0 0] 26)) := (Below.refl _ _).alloc (Nat.le_refl _) _
  have s3 : (w3.alloc (.cells #[.int .i64 0, .int .i64 0, .slice none 0 0] 26)).heap.size = w.heap.size + 1 + 1 + 1 + 1 := by simp [s2]
  obtain ⟨w4, hw4⟩ : ∃ w4, w4 = w3.alloc (.cells #[.int .i64 0, .int .i64 0, .slice none 0 0] 26) := ⟨_, rfl⟩
  rw [← hw4] at a3 b3 s3 ⊢
  clear hw4
  rw [s2] at a3
  have b14 : Below w1.heap.size w1 w4 := b1.trans ((b2.trans (b3.mono (by omega))).mono (by omega))
  have b5 : Below w4.heap.size w4 (w4.alloc (.cells #[.int .i64 0] 27)) := (Below.refl _ _).alloc (Nat.le_refl _) _
  have hx1 := hp_below a1 (b2.trans (b3.mono (by omega))) (by omega)
  have hx2 := hp_below a2 b3 (by omega)
  have hz := hp_new0 w4 (.cells #[.int .i64 0] 27)
  have hBY := (HBW.out.below b14).below b5
  have hG : GdS (w.heap.size + 1) m 0 b (.slice none 0 0) (-1) (w4.alloc (.cells #[.int .i64 0] 27)) := by
    refine ⟨by rw [World.size_alloc, s3]; omega, by omega, A, cap, hp_alloc _ hx1, hm, HMX.out, HA.out, fun a ha => ?_, fun hn => ?_⟩
    · obtain ⟨bk, of, h1, h2, _⟩ := HB.out (by omega)
      rw [h1] at ha
      cases ha
      show bk < w.heap.size + 1
      omega
    · obtain ⟨bk, of, h1, h2, h3⟩ := hBY (by omega)
      exact ⟨bk, of, h1, h2, fun j hj => by rw [h3 j (by omega)]; simp⟩
  have hclo := gclo (w.heap.size + 1) m (w.heap.size + 1 + 1) (w.heap.size + 1 + 1 + 1) b HBT.out (by omega) (by omega) _ hG W H HW.out HH.out (hp_alloc _ hx2) (hp_alloc _ a3) (by omega)
  rw [← HE.out] at hclo
  have hs5 : (w4.alloc (.cells #[.int .i64 0] 27)).heap.size = w4.heap.size + 1 := by simp
  obtain ⟨w5, hw5⟩ : ∃ w5, w4.alloc (.cells #[.int .i64 0] 27) = w5 := ⟨_, rfl⟩
  rw [hw5] at hclo hs5 b5 hz
  have HW5 := Lib.hid hw5
  have HK := Lib.hid hclo
  have HZ := Lib.hid hz
  have HB5 := Lib.hid (HW0.out.trans ((b14.trans (b5.mono (by omega))).mono (by omega)))
  have HR5 := Lib.hid (hp_below (hp_below HR0.out b14 (by omega)) b5 (by omega))
  have hT := gtried 22 #[.pointer (some ⟨w.heap.size + 1 + 1, 0, none⟩), .pointer (some ⟨w.heap.size + 1 + 1 + 1, 0, none⟩)] (gent _ _) w4
    (fun w' => Chg [w.heap.size + 1, w.heap.size + 1 + 1 + 1] w5 w' ∧ r.2 = 0 ∧ ∃ ga cap, w5.heap.size ≤ ga ∧ 4 * (W * H) ≤ cap ∧ cap ≤ maxLen ∧ w'.heap[w.heap.size + 1 + 1 + 1]? = some (.cells #[.int .i64 (W : Nat), .int .i64 (H : Nat), .slice (some ⟨ga, 0, none⟩) (4 * (W * H)) cap] 26 (0, 0)) ∧ Own 0 w' (some ⟨ga, 0, none⟩) (4 * (W * H)) r.1)
    (fun q w' => Chg [w.heap.size + 1, w.heap.size + 1 + 1 + 1] w5 w' ∧ r.2 = q ∧ q ≠ 0) (by
      rw [hw5]
      refine HK.out.mono ?_
      rintro e w' ⟨hC, hd⟩
      refine ⟨hp_chg HZ.out hC (by simp; omega), ?_⟩
      rcases hd with ⟨h0, rfl, ga, cap', q1, q2, q3, q4, q5⟩ | ⟨h0, hpe⟩
      · exact .inl ⟨rfl, hC, h0, ga, cap', q1, q2, q3, q4, q5⟩
      · exact .inr ⟨r.2, hpe, hC, rfl, h0⟩)
  have HT := Lib.hid hT
  clear hclo hz a1 a2 a3 b1 b2 b3 b5 b14 hx1 hx2 hBY hG HR0 HW0 HBW HE hw5 hT HK
  go_wp2_with fail
  refine HT.out.mono ?_
  rintro e w7 ⟨q, w6, rfl, hq0, rfl, ⟨rfl, hC, h0, ga, cap', g1, g2, g3, g4, g5⟩ | ⟨hC, h0, hqn⟩⟩
  · have hw46 : w4.heap.size < w6.heap.size := lt_heap hq0
    have hres := hp_oth (g := w4.heap.size) (i := 0) (v := .int .i64 0) (hp_chg HR5.out hC (by simp; omega)) (by omega)
    have hrv := hp_oth (g := w4.heap.size) (i := 0) (v := .int .i64 0) g4 (by omega)
    have j0 := hp_cell (j := 0) hrv rfl
    have j1 := hp_cell (j := 1) hrv rfl
    have j2 := hp_cell (j := 2) hrv rfl
    have l0 := hp_cell (j := 0) hres rfl
    have l1 := hp_cell (j := 1) hres rfl
    have l2 := hp_cell (j := 2) hres rfl
    have lf := hp_froz hres
    have hb6 := HB5.out.trans (hC.below (B := w.heap.size) (by omega) (fun k hk => by simp at hk; omega))
    have HB6 := Lib.hid (hb6.setCell (p := ⟨w4.heap.size, 0, none⟩) (by simp; omega) (.int .i64 0))
    have HO6 : Hid (Own (w.heap.size + 1) (w6.setCell ⟨w4.heap.size, 0, none⟩ (.int .i64 0)) (some ⟨ga, 0, none⟩) (4 * (W * H)) r.1) := Lib.hid (fun h9 => by
      obtain ⟨k, cur, he, _, hg, h2⟩ := g5 h9
      cases he
      exact ⟨ga, cur, rfl, by omega, hp_oth hg (by omega), h2⟩)
    have H0 := Lib.hid h0
    clear hq0 hC h0 g4 g5 hres hrv hb6
    generalize w6.setCell ⟨w4.heap.size, 0, none⟩ (.int .i64 0) = w7 at *
    go_wp2
    refine bodyPost_ret (v := .tuple #[.agg #[.int .i64 (W : Nat), .int .i64 (H : Nat), .slice (some ⟨ga, 0, none⟩) (4 * (W * H)) cap'], .int .i64 0]) (by rw [results_cell_tmp rfl]; go_simp) rfl ?_
    exact ⟨HBel.out _ _ _ _ HB6.out, .inl ⟨H0.out, some ⟨ga, 0, none⟩, cap', g2, g3, rfl, (((HO6.out.set (g := w.heap.size) (by omega) 0 _).set (g := w.heap.size) (by omega) 1 _).set (g := w.heap.size) (by omega) 2 _).le (by omega)⟩⟩
  · have hw46 : w4.heap.size < w6.heap.size := lt_heap hq0
    have hres := hp_oth (g := w4.heap.size) (i := 0) (v := .int .i64 (q : Nat)) (hp_chg HR5.out hC (by simp; omega)) (by omega)
    have l0 := hp_cell (j := 0) hres rfl
    have l1 := hp_cell (j := 1) hres rfl
    have l2 := hp_cell (j := 2) hres rfl
    have lf := hp_froz hres
    have hb6 := HB5.out.trans (hC.below (B := w.heap.size) (by omega) (fun k hk => by simp at hk; omega))
    have HB6 := Lib.hid (hb6.setCell (p := ⟨w4.heap.size, 0, none⟩) (by simp; omega) (.int .i64 (q : Nat)))
    have H0 := Lib.hid h0
    have HQ := Lib.hid hqn
    have t5 : ((q : Int) != 0) = true := by rw [bne_iff_ne]; omega
    clear hq0 hC h0 hres hb6 hqn
    generalize w6.setCell ⟨w4.heap.size, 0, none⟩ (.int .i64 (q : Nat)) = w7 at *
    go_wp2
    refine bodyPost_ret (v := .tuple #[.agg #[.int .i64 0, .int .i64 0, .slice none 0 0], .int .i64 (q : Nat)]) (by rw [results_cell_tmp rfl]; go_simp) rfl ?_
    exact ⟨by first | exact HB6.out | exact HBel.out _ _ _ _ HB6.out, .inr ⟨by rw [H0.out]; exact HQ.out, by rw [H0.out]⟩⟩
end Go.Proofs.Ytkjlejkcedemlaa

namespace Go.Proofs.Ytkjlejkcedemlaa
set_option maxRecDepth 100000
set_option linter.unusedVariables false

/-- A picture's file: its sides, the colours, which is clear, how many bits, the codes' bytes, what is behind. -/
def gifD (W H : Nat) (L : List P4) (cl : Int) (bb : Nat) (D tl : List Nat) : List Nat :=
  ([71, 73, 70, 56, 57, 97] ++ (num2 W ++ num2 H) ++ [127 + bb, 0, 0]) ++ (tabR L (3 * 2 ^ bb) (3 * L.length) ++ ((if 0 ≤ cl then [33, 249, 4, 1, 0, 0, cl.toNat % 256, 0] else []) ++ (([44, 0, 0, 0, 0] ++ (num2 W ++ num2 H) ++ [0, max 2 bb]) ++ (blkV D ++ tl))))
section
variable {W H : Nat} {c : Nat → Nat} {L : List P4} {cl : Int} {bb : Nat} {idx : List Nat}
/-- The frame's own part. -/
theorem frame_backD (D tl : List Nat) (hD : lzwV (gz D) D.length ((max 2 bb : Nat) : Int) ((W * H : Nat) : Int) = (idx, 0)) (h : GifOk W H c L cl bb idx) (pre : List Nat) (cols : List P4) (hcols : cols ≠ [])
    (hcc : ∀ j, j < L.length → (j : Int) ≠ cl → j < cols.length ∧ (cols[j]?).getD (0, 0, 0, 0) = (L[j]?).getD (0, 0, 0, 0)) (b : Nat → Nat) (n p : Nat)
    (hb : b = gz (pre ++ (([44, 0, 0, 0, 0] ++ (num2 W ++ num2 H) ++ [0, max 2 bb]) ++ (blkV D ++ tl)))) (hn : n = (pre ++ (([44, 0, 0, 0, 0] ++ (num2 W ++ num2 H) ++ [0, max 2 bb]) ++ (blkV D ++ tl))).length) (hp : p = pre.length) :
    b p = 44 ∧ ∃ d, frameG b n (p + 1) W H cols cl = (d, 0) ∧ ∀ t, t < 4 * (W * H) → d t = c t := by
  have hw1 := h.w1
  have hw2 := h.w2
  have hh1 := h.h1
  have hh2 := h.h2
  have hb1 := h.b1
  have hb2 := h.b2
  have hg : ∀ k, b (p + k) = gz (([44, 0, 0, 0, 0] ++ (num2 W ++ num2 H) ++ [0, max 2 bb]) ++ (blkV D ++ tl)) k := fun k => by rw [hb]; exact gz_at _ _ _ _ hp
  have hg0 : b p = 44 := by have := hg 0; rwa [Nat.add_zero] at this
  have f1 : ∀ k, b (p + 1 + k) = b (p + (1 + k)) := fun k => by rw [Nat.add_assoc]
  have e1 := hg 1
  have e2 := hg 2
  have e3 := hg 3
  have e4 := hg 4
  have e5 := hg 5
  have e6 := hg 6
  have e7 := hg 7
  have e8 := hg 8
  have e9 := hg 9
  have e10 := hg 10
  simp [gz, num2] at e1 e2 e3 e4 e5 e6 e7 e8 e9 e10
  have hlow : ∀ q, lowD b q 2 = b q + 256 * b (q + 1) := low_two b
  have l0 : lowD b (p + 1) 2 = 0 := by rw [hlow, e1, show p + 1 + 1 = p + 2 by omega, e2]
  have l1 : lowD b (p + 1 + 2) 2 = 0 := by rw [hlow, show p + 1 + 2 = p + 3 by omega, e3, show p + 3 + 1 = p + 4 by omega, e4]
  have l2 : lowD b (p + 1 + 4) 2 = W := by rw [hlow, show p + 1 + 4 = p + 5 by omega, e5, show p + 5 + 1 = p + 6 by omega, e6]; omega
  have l3 : lowD b (p + 1 + 6) 2 = H := by rw [hlow, show p + 1 + 6 = p + 7 by omega, e7, show p + 7 + 1 = p + 8 by omega, e8]; omega
  have l4 : b (p + 1 + 8) = 0 := by rw [show p + 1 + 8 = p + 9 by omega]; exact e9
  have l5 : b (p + 1 + 9) = max 2 bb := by rw [show p + 1 + 9 = p + 10 by omega]; exact e10
  obtain ⟨z, hz⟩ : ∃ z, z = D := ⟨_, rfl⟩
  have hnl : n = p + 11 + (blkV z).length + tl.length := by rw [hn, hz, hp]; simp [num2]; omega
  have hsuf : (fun i => b (p + 1 + 9 + 1 + i)) = gz (blkV z ++ tl) := by
    funext i
    rw [show p + 1 + 9 + 1 + i = p + (11 + i) by omega, hg, hz]
    have : ([44, 0, 0, 0, 0] ++ (num2 W ++ num2 H) ++ [0, max 2 bb]).length = 11 := by simp [num2]
    exact gz_at _ _ 11 i this.symm
  have hun : unV (fun i => b (p + 1 + 9 + 1 + i)) (n - (p + 1 + 9 + 1)) = (z, (blkV z).length, 0) := by
    rw [hsuf, show n - (p + 1 + 9 + 1) = (blkV z ++ tl).length by rw [hnl]; simp; omega]
    exact un_back z tl
  have hlz : lzwV (gz z) z.length ((max 2 bb : Nat) : Int) ((W * H : Nat) : Int) = (idx, 0) := by
    rw [hz]
    exact hD
  have hdr := draw_all W (by omega) cols cl c idx (fun i hi hne => by
      have hi' : i < W * H := by rw [← h.lx]; exact hi
      obtain ⟨g1, g2⟩ := h.ix i hi'
      obtain ⟨k1, k2⟩ := hcc _ g1 hne
      exact ⟨k1, k2.trans g2⟩) (fun i hi he => by
      have hi' : i < W * H := by rw [← h.lx]; exact hi
      obtain ⟨g1, g2⟩ := h.ix i hi'
      exact g2.symm.trans (((h.ci _ g1).1 he)))
  have hdr' : ∃ d, drawG W W 0 0 false (rowsG H) cols cl idx 0 noP = some d ∧ ∀ t, t < 4 * idx.length → d t = c t := by
    have same : ∀ (ps : List Nat) (j : Nat) (e : Nat → Nat), drawG W W 0 0 false (rowsG H) cols cl ps j e = drawG W W 0 0 false (rowsG 0) cols cl ps j e := by
      intro ps
      induction ps with
      | nil => intro j e; rfl
      | cons k ps ih =>
        intro j e
        rw [drawG, drawG]
        simp only [Bool.false_eq_true, if_false, ih]
    rw [same]
    exact hdr
  obtain ⟨d, hd1, hd2⟩ := hdr'
  refine ⟨hg0, d, ?_, fun t ht => hd2 t (by rw [h.lx]; exact ht)⟩
  unfold frameG
  rw [if_neg (by omega), l0, l1, l2, l3, l4, if_neg (by omega), if_neg (by simp)]
  unfold pixG
  rw [if_neg hcols, if_neg (by omega), l5, if_neg (by omega), hun]
  dsimp only
  rw [if_neg (by simp), hlz]
  dsimp only
  rw [if_neg (by simp), if_neg (by rw [h.lx]; omega)]
  have hfl : decide ((0 : Nat) / 64 % 2 = 1) = false := by decide
  rw [hfl, hd1]
/-- A file that was written is read as its picture. -/
theorem gif_backD (D tl : List Nat) (hD : lzwV (gz D) D.length ((max 2 bb : Nat) : Int) ((W * H : Nat) : Int) = (idx, 0)) (h : GifOk W H c L cl bb idx) (hsz : sizeE (W : Nat) (H : Nat) = 0) (b : Nat → Nat) (n : Nat) (hb : b = gz (gifD W H L cl bb D tl)) (hn : n = (gifD W H L cl bb D tl).length) (hmx : n ≤ 262144) :
    lowD b 6 2 = W ∧ lowD b 8 2 = H ∧ ∃ d, gifG b n = (d, 0) ∧ ∀ t, t < 4 * (W * H) → d t = c t := by
  have hw1 := h.w1
  have hw2 := h.w2
  have hh1 := h.h1
  have hh2 := h.h2
  have hb1 := h.b1
  have hb2 := h.b2
  have hlb := h.lb
  obtain ⟨P, hP⟩ : ∃ P, P = 2 ^ bb := ⟨_, rfl⟩
  have hP1 : 2 ≤ P := by rw [hP]; exact Nat.pow_le_pow_right (n := 2) (i := 1) (by omega) hb1
  have hP2 : P ≤ 256 := by rw [hP]; exact Nat.pow_le_pow_right (n := 2) (j := 8) (by omega) hb2
  obtain ⟨N, hN⟩ : ∃ N, N = W * H := ⟨_, rfl⟩
  have hN2 : N ≤ 16384 := by rw [hN]; exact h.n2
  have hN9 : 9 * W * H = 9 * N := by rw [hN, Nat.mul_assoc]
  obtain ⟨H13, h13⟩ : ∃ l, l = [71, 73, 70, 56, 57, 97] ++ (num2 W ++ num2 H) ++ [127 + bb, 0, 0] := ⟨_, rfl⟩
  obtain ⟨T, hT⟩ : ∃ l, l = tabR L (3 * 2 ^ bb) (3 * L.length) := ⟨_, rfl⟩
  obtain ⟨E, hE⟩ : ∃ l : List Nat, l = if 0 ≤ cl then [33, 249, 4, 1, 0, 0, cl.toNat % 256, 0] else [] := ⟨_, rfl⟩
  obtain ⟨R, hR⟩ : ∃ l, l = ([44, 0, 0, 0, 0] ++ (num2 W ++ num2 H) ++ [0, max 2 bb]) ++ (blkV D ++ tl) := ⟨_, rfl⟩
  have hF : gifD W H L cl bb D tl = H13 ++ (T ++ (E ++ R)) := by rw [h13, hT, hE, hR]; rfl
  have h13l : H13.length = 13 := by rw [h13]; simp [num2]
  have hTl : T.length = 3 * P := by rw [hT, tabR_len, hP]
  have hEl : E.length ≤ 8 := by rw [hE]; split <;> simp
  have hRl : R.length = 11 + (blkV D).length + tl.length := by rw [hR]; simp [num2]; omega
  have hbl := blkV_len D
  have hnl : n = 13 + 3 * P + E.length + R.length := by rw [hn, hF]; simp [h13l, hTl]; omega
  have hbk : ∀ k, k < 13 → b k = gz H13 k := fun k hk => by rw [hb, hF]; exact gz_append_left (by omega)
  have e0 := hbk 0 (by omega)
  have e1 := hbk 1 (by omega)
  have e2 := hbk 2 (by omega)
  have e3 := hbk 3 (by omega)
  have e4 := hbk 4 (by omega)
  have e5 := hbk 5 (by omega)
  have e6 := hbk 6 (by omega)
  have e7 := hbk 7 (by omega)
  have e8 := hbk 8 (by omega)
  have e9 := hbk 9 (by omega)
  have e10 := hbk 10 (by omega)
  rw [h13] at e0 e1 e2 e3 e4 e5 e6 e7 e8 e9 e10
  simp [gz, num2] at e0 e1 e2 e3 e4 e5 e6 e7 e8 e9 e10
  have l6 : lowD b 6 2 = W := by rw [low_two, e6, e7]; omega
  have l8 : lowD b 8 2 = H := by rw [low_two, e8, e9]; omega
  refine ⟨l6, l8, ?_⟩
  have hgif : isGif b = true := by
    unfold isGif
    rw [e0, e1, e2, e3, e4, e5]
    decide
  have hcols : tabC b 13 P ≠ [] := fun e => by
    have := congrArg List.length e
    rw [tabC_len] at this
    simp at this
    omega
  have hcc : ∀ j, j < L.length → (j : Int) ≠ cl → j < (tabC b 13 P).length ∧ ((tabC b 13 P)[j]?).getD (0, 0, 0, 0) = (L[j]?).getD (0, 0, 0, 0) := fun j hj hne => by
    refine ⟨by rw [tabC_len]; omega, ?_⟩
    obtain ⟨k1, k2, k3, k4⟩ := h.co j hj (fun e => hne ((h.ci j hj).2 e))
    rw [hb, hF, hT]
    exact tabC_get L H13 (E ++ R) (3 * 2 ^ bb) P j h13l.symm (by omega) (by omega) hj k1 k2 k3 k4
  have hgo : gifG b n = partsG b n W H (tabC b 13 P) (n + 1) (13 + 3 * P) (-1) := by
    unfold gifG
    rw [if_neg (by omega), if_neg (by omega), if_neg (by rw [hgif]; simp), l6, l8, if_neg (by rw [hsz]; simp), if_pos (by omega)]
    have e : b 10 % 8 + 1 = bb := by omega
    rw [e, ← hP, if_neg (by omega)]
  rw [hgo, ← hN]
  by_cases hcl : 0 ≤ cl
  · have hE8 : E = [33, 249, 4, 1, 0, 0, cl.toNat % 256, 0] := by rw [hE, if_pos hcl]
    have hcr := h.cr
    obtain ⟨x, rfl⟩ : ∃ x : Nat, cl = x := Int.eq_ofNat_of_zero_le hcl
    have hx : (x : Int).toNat % 256 = x := by omega
    rw [hx] at hE8
    have hEl8 : E.length = 8 := by rw [hE8]; rfl
    have hpre : b = gz ((H13 ++ T) ++ (E ++ R)) := by rw [hb, hF, List.append_assoc]
    have hpl : (H13 ++ T).length = 13 + 3 * P := by rw [List.length_append, h13l, hTl]
    have q0 : b (13 + 3 * P) = 33 := by rw [hpre, gz_at0 _ _ _ hpl.symm, gz_append_left (by omega), hE8]; rfl
    have q1 : b (13 + 3 * P + 1) = 249 := by rw [hpre, gz_at _ _ _ _ hpl.symm, gz_append_left (by omega), hE8]; rfl
    have hun : unV (fun i => b (13 + 3 * P + 2 + i)) (n - (13 + 3 * P + 2)) = ([1, 0, 0, x], 6, 0) := by
      have hs : (fun i => b (13 + 3 * P + 2 + i)) = gz (blkV [1, 0, 0, x] ++ R) := by
        funext i
        rw [blk_four, hpre, show 13 + 3 * P + 2 + i = 13 + 3 * P + (2 + i) by omega, gz_at _ _ _ _ hpl.symm, hE8]
        exact gz_at [33, 249] ([4, 1, 0, 0, x, 0] ++ R) 2 i rfl
      have hl : n - (13 + 3 * P + 2) = (blkV [1, 0, 0, x] ++ R).length := by rw [blk_four, List.length_append, hnl, hEl8]; simp; omega
      rw [hs, hl, un_back, blk_four]
      rfl
    obtain ⟨hf, d, hd1, hd2⟩ := frame_backD D tl hD h (H13 ++ T ++ E) (tabC b 13 P) hcols hcc b n (13 + 3 * P + 2 + 6) (by rw [hb, hF, hR]; simp) (by rw [hn, hF, hR]; simp) (by rw [List.length_append, hpl, hEl8])
    refine ⟨d, ?_, fun t ht => hd2 t (by rw [← hN]; exact ht)⟩
    rw [partsG, if_neg (by omega), q0, if_neg (by omega), if_neg (by omega), if_neg (by omega), hun]
    dsimp only
    rw [if_neg (by simp), q1, if_pos rfl, if_neg (by simp)]
    obtain ⟨K, hK⟩ : ∃ K, n = K + 1 := ⟨n - 1, by omega⟩
    have hgx : (if gz [1, 0, 0, x] 0 % 2 = 1 then ((gz [1, 0, 0, x] 3 : Nat) : Int) else -1) = (x : Int) := by
      have a0 : gz [1, 0, 0, x] 0 = 1 := rfl
      have a3 : gz [1, 0, 0, x] 3 = x := rfl
      rw [a0, a3, if_pos (by omega)]
    rw [hgx]
    have : partsG b n W H (tabC b 13 P) n (13 + 3 * P + 2 + 6) (x : Int) = frameG b n (13 + 3 * P + 2 + 6 + 1) W H (tabC b 13 P) (x : Int) := by
      conv => lhs; arg 6; rw [hK]
      rw [partsG, if_neg (by omega), if_pos hf]
    rw [this, hd1]
  · have hE0 : E = [] := by rw [hE, if_neg hcl]
    have hcr := h.cr
    obtain rfl : cl = -1 := by omega
    have hEl0 : E.length = 0 := by rw [hE0]; rfl
    obtain ⟨hf, d, hd1, hd2⟩ := frame_backD D tl hD h (H13 ++ T) (tabC b 13 P) hcols hcc b n (13 + 3 * P) (by rw [hb, hF, hE0, hR]; simp) (by rw [hn, hF, hE0, hR]; simp) (by rw [List.length_append, h13l, hTl])
    refine ⟨d, ?_, fun t ht => hd2 t (by rw [← hN]; exact ht)⟩
    rw [partsG, if_neg (by omega), if_pos hf, hd1]
end
end Go.Proofs.Ytkjlejkcedemlaa

namespace Go.Proofs.Ytkjlejkcedemlaa
set_option maxRecDepth 100000
set_option linter.unusedVariables false

theorem unF_cut (b : Nat → Nat) (n n' : Nat) : ∀ (K K' at_ : Nat) (out : List Nat), (unF b n K at_ out).2.2 = 0 → n' < (unF b n K at_ out).2.1 → (unF b n' K' at_ out).2.2 = 2 := by
  intro K
  induction K with
  | zero => intro K' at_ out h _; simp [unF] at h
  | succ K ih =>
    intro K' at_ out h hn
    cases K' with
    | zero => simp [unF]
    | succ K' =>
      rw [unF] at h hn
      rw [unF]
      by_cases h1 : n ≤ at_
      · rw [if_pos h1] at h; simp at h
      · rw [if_neg h1] at h hn
        by_cases h2 : b at_ = 0
        · rw [if_pos h2] at hn
          dsimp only at hn
          rw [if_pos (by omega)]
        · rw [if_neg h2] at h hn
          by_cases h3 : n - (at_ + 1) < b at_
          · rw [if_pos h3] at h; simp at h
          · rw [if_neg h3] at h hn
            by_cases h4 : n' ≤ at_
            · rw [if_pos h4]
            · rw [if_neg h4, if_neg h2]
              by_cases h5 : n' - (at_ + 1) < b at_
              · rw [if_pos h5]
              · rw [if_neg h5]
                exact ih K' _ _ h hn
theorem un_cut (l c : List Nat) (n : Nat) (h : n < (blkV l).length) : (unV (gz (blkV l ++ c)) n).2.2 = 2 := by
  have hb := un_back l c
  unfold unV at hb ⊢
  refine unF_cut _ (blkV l ++ c).length n ((blkV l ++ c).length + 1) _ _ _ ?_ ?_
  · rw [hb]
  · rw [hb]; exact h
theorem unF_ext (a b : Nat → Nat) (n : Nat) (h : ∀ i, i < n → a i = b i) : ∀ (K at_ : Nat) (out : List Nat), unF a n K at_ out = unF b n K at_ out := by
  intro K
  induction K with
  | zero => intro at_ out; rfl
  | succ K ih =>
    intro at_ out
    rw [unF, unF]
    by_cases h1 : n ≤ at_
    · rw [if_pos h1, if_pos h1]
    · rw [if_neg h1, if_neg h1, h at_ (by omega)]
      by_cases h2 : b at_ = 0
      · rw [if_pos h2, if_pos h2]
      · rw [if_neg h2, if_neg h2]
        by_cases h3 : n - (at_ + 1) < b at_
        · rw [if_pos h3, if_pos h3]
        · rw [if_neg h3, if_neg h3, ih]
          congr 2
          exact List.map_congr_left (fun i hi => h _ (by have := List.mem_range.1 hi; omega))
theorem un_ext (a b : Nat → Nat) (n : Nat) (h : ∀ i, i < n → a i = b i) : unV a n = unV b n := unF_ext a b n h _ _ _
section
variable {W H : Nat} {c : Nat → Nat} {L : List P4} {cl : Int} {bb : Nat} {idx : List Nat}
theorem frame_cut (D tl : List Nat) (h : GifOk W H c L cl bb idx) (pre : List Nat) (cols : List P4) (hcols : cols ≠ []) (b : Nat → Nat) (n p : Nat)
    (hb : b = gz (pre ++ (([44, 0, 0, 0, 0] ++ (num2 W ++ num2 H) ++ [0, max 2 bb]) ++ (blkV D ++ tl)))) (hn : n < p + 11 + (blkV D).length) (hp : p = pre.length) :
    b p = 44 ∧ frameG b n (p + 1) W H cols cl = (noP, 2) := by
  have hw1 := h.w1
  have hw2 := h.w2
  have hh1 := h.h1
  have hh2 := h.h2
  have hb1 := h.b1
  have hb2 := h.b2
  have hg : ∀ k, b (p + k) = gz (([44, 0, 0, 0, 0] ++ (num2 W ++ num2 H) ++ [0, max 2 bb]) ++ (blkV D ++ tl)) k := fun k => by rw [hb]; exact gz_at _ _ _ _ hp
  have hg0 : b p = 44 := by have := hg 0; rwa [Nat.add_zero] at this
  have f1 : ∀ k, b (p + 1 + k) = b (p + (1 + k)) := fun k => by rw [Nat.add_assoc]
  have e1 := hg 1
  have e2 := hg 2
  have e3 := hg 3
  have e4 := hg 4
  have e5 := hg 5
  have e6 := hg 6
  have e7 := hg 7
  have e8 := hg 8
  have e9 := hg 9
  have e10 := hg 10
  simp [gz, num2] at e1 e2 e3 e4 e5 e6 e7 e8 e9 e10
  have hlow : ∀ q, lowD b q 2 = b q + 256 * b (q + 1) := low_two b
  have l0 : lowD b (p + 1) 2 = 0 := by rw [hlow, e1, show p + 1 + 1 = p + 2 by omega, e2]
  have l1 : lowD b (p + 1 + 2) 2 = 0 := by rw [hlow, show p + 1 + 2 = p + 3 by omega, e3, show p + 3 + 1 = p + 4 by omega, e4]
  have l2 : lowD b (p + 1 + 4) 2 = W := by rw [hlow, show p + 1 + 4 = p + 5 by omega, e5, show p + 5 + 1 = p + 6 by omega, e6]; omega
  have l3 : lowD b (p + 1 + 6) 2 = H := by rw [hlow, show p + 1 + 6 = p + 7 by omega, e7, show p + 7 + 1 = p + 8 by omega, e8]; omega
  have l4 : b (p + 1 + 8) = 0 := by rw [show p + 1 + 8 = p + 9 by omega]; exact e9
  have l5 : b (p + 1 + 9) = max 2 bb := by rw [show p + 1 + 9 = p + 10 by omega]; exact e10
  refine ⟨hg0, ?_⟩
  unfold frameG
  by_cases d1 : n < p + 1 + 9
  · rw [if_pos d1]
  rw [if_neg d1, l0, l1, l2, l3, l4, if_neg (by omega), if_neg (by simp)]
  unfold pixG
  rw [if_neg hcols]
  by_cases d2 : n ≤ p + 1 + 9
  · rw [if_pos d2]
  rw [if_neg d2, l5, if_neg (by omega)]
  have hsuf : (fun i => b (p + 1 + 9 + 1 + i)) = gz (blkV D ++ tl) := by
    funext i
    rw [show p + 1 + 9 + 1 + i = p + (11 + i) by omega, hg]
    have : ([44, 0, 0, 0, 0] ++ (num2 W ++ num2 H) ++ [0, max 2 bb]).length = 11 := by simp [num2]
    exact gz_at _ _ 11 i this.symm
  have hun : (unV (fun i => b (p + 1 + 9 + 1 + i)) (n - (p + 1 + 9 + 1))).2.2 = 2 := by
    rw [hsuf]
    exact un_cut D tl _ (by omega)
  rw [hun, if_pos (by decide)]
theorem gif_cut (D tl : List Nat) (h : GifOk W H c L cl bb idx) (hsz : sizeE (W : Nat) (H : Nat) = 0) (b : Nat → Nat) (n : Nat) (hb : b = gz (gifD W H L cl bb D tl)) (hn : n + tl.length < (gifD W H L cl bb D tl).length) (hmx : n ≤ 262144) : gifG b n = (noP, 2) := by
  have hw1 := h.w1
  have hw2 := h.w2
  have hh1 := h.h1
  have hh2 := h.h2
  have hb1 := h.b1
  have hb2 := h.b2
  have hlb := h.lb
  obtain ⟨P, hP⟩ : ∃ P, P = 2 ^ bb := ⟨_, rfl⟩
  have hP1 : 2 ≤ P := by rw [hP]; exact Nat.pow_le_pow_right (n := 2) (i := 1) (by omega) hb1
  have hP2 : P ≤ 256 := by rw [hP]; exact Nat.pow_le_pow_right (n := 2) (j := 8) (by omega) hb2
  obtain ⟨N, hN⟩ : ∃ N, N = W * H := ⟨_, rfl⟩
  have hN2 : N ≤ 16384 := by rw [hN]; exact h.n2
  have hN9 : 9 * W * H = 9 * N := by rw [hN, Nat.mul_assoc]
  obtain ⟨H13, h13⟩ : ∃ l, l = [71, 73, 70, 56, 57, 97] ++ (num2 W ++ num2 H) ++ [127 + bb, 0, 0] := ⟨_, rfl⟩
  obtain ⟨T, hT⟩ : ∃ l, l = tabR L (3 * 2 ^ bb) (3 * L.length) := ⟨_, rfl⟩
  obtain ⟨E, hE⟩ : ∃ l : List Nat, l = if 0 ≤ cl then [33, 249, 4, 1, 0, 0, cl.toNat % 256, 0] else [] := ⟨_, rfl⟩
  obtain ⟨R, hR⟩ : ∃ l, l = ([44, 0, 0, 0, 0] ++ (num2 W ++ num2 H) ++ [0, max 2 bb]) ++ (blkV D ++ tl) := ⟨_, rfl⟩
  have hF : gifD W H L cl bb D tl = H13 ++ (T ++ (E ++ R)) := by rw [h13, hT, hE, hR]; rfl
  have h13l : H13.length = 13 := by rw [h13]; simp [num2]
  have hTl : T.length = 3 * P := by rw [hT, tabR_len, hP]
  have hEl : E.length ≤ 8 := by rw [hE]; split <;> simp
  have hRl : R.length = 11 + (blkV D).length + tl.length := by rw [hR]; simp [num2]; omega
  have hbl := blkV_len D
  have hnl : n < 13 + 3 * P + E.length + 11 + (blkV D).length := by rw [hF] at hn; simp [h13l, hTl] at hn; omega
  have hbk : ∀ k, k < 13 → b k = gz H13 k := fun k hk => by rw [hb, hF]; exact gz_append_left (by omega)
  have e0 := hbk 0 (by omega)
  have e1 := hbk 1 (by omega)
  have e2 := hbk 2 (by omega)
  have e3 := hbk 3 (by omega)
  have e4 := hbk 4 (by omega)
  have e5 := hbk 5 (by omega)
  have e6 := hbk 6 (by omega)
  have e7 := hbk 7 (by omega)
  have e8 := hbk 8 (by omega)
  have e9 := hbk 9 (by omega)
  have e10 := hbk 10 (by omega)
  rw [h13] at e0 e1 e2 e3 e4 e5 e6 e7 e8 e9 e10
  simp [gz, num2] at e0 e1 e2 e3 e4 e5 e6 e7 e8 e9 e10
  have l6 : lowD b 6 2 = W := by rw [low_two, e6, e7]; omega
  have l8 : lowD b 8 2 = H := by rw [low_two, e8, e9]; omega
  have hgif : isGif b = true := by
    unfold isGif
    rw [e0, e1, e2, e3, e4, e5]
    decide
  by_cases d1 : n < 13
  · unfold gifG
    rw [if_neg (by omega), if_pos d1]
  have hcols : tabC b 13 P ≠ [] := fun e => by
    have := congrArg List.length e
    rw [tabC_len] at this
    simp at this
    omega
  have e : b 10 % 8 + 1 = bb := by omega
  by_cases d2 : n < 13 + 3 * P
  · unfold gifG
    rw [if_neg (by omega), if_neg (by omega), if_neg (by rw [hgif]; simp), l6, l8, if_neg (by rw [hsz]; simp), if_pos (by omega), e, ← hP, if_pos d2]
  have hgo : gifG b n = partsG b n W H (tabC b 13 P) (n + 1) (13 + 3 * P) (-1) := by
    unfold gifG
    rw [if_neg (by omega), if_neg (by omega), if_neg (by rw [hgif]; simp), l6, l8, if_neg (by rw [hsz]; simp), if_pos (by omega)]
    rw [e, ← hP, if_neg (by omega)]
  rw [hgo]
  rw [partsG]
  by_cases d3 : n ≤ 13 + 3 * P
  · rw [if_pos d3]
  rw [if_neg d3]
  by_cases hcl : 0 ≤ cl
  · have hE8 : E = [33, 249, 4, 1, 0, 0, cl.toNat % 256, 0] := by rw [hE, if_pos hcl]
    have hcr := h.cr
    obtain ⟨x, rfl⟩ : ∃ x : Nat, cl = x := Int.eq_ofNat_of_zero_le hcl
    have hx : (x : Int).toNat % 256 = x := by omega
    rw [hx] at hE8
    have hEl8 : E.length = 8 := by rw [hE8]; rfl
    have hpre : b = gz ((H13 ++ T) ++ (E ++ R)) := by rw [hb, hF, List.append_assoc]
    have hpl : (H13 ++ T).length = 13 + 3 * P := by rw [List.length_append, h13l, hTl]
    have q0 : b (13 + 3 * P) = 33 := by rw [hpre, gz_at0 _ _ _ hpl.symm, gz_append_left (by omega), hE8]; rfl
    have q1 : b (13 + 3 * P + 1) = 249 := by rw [hpre, gz_at _ _ _ _ hpl.symm, gz_append_left (by omega), hE8]; rfl
    rw [q0, if_neg (by omega), if_neg (by omega)]
    by_cases d4 : n ≤ 13 + 3 * P + 1
    · rw [if_pos d4]
    rw [if_neg d4]
    have hs : (fun i => b (13 + 3 * P + 2 + i)) = gz (blkV [1, 0, 0, x] ++ R) := by
      funext i
      rw [blk_four, hpre, show 13 + 3 * P + 2 + i = 13 + 3 * P + (2 + i) by omega, gz_at _ _ _ _ hpl.symm, hE8]
      exact gz_at [33, 249] ([4, 1, 0, 0, x, 0] ++ R) 2 i rfl
    by_cases d5 : n - (13 + 3 * P + 2) < 6
    · have hun := un_cut [1, 0, 0, x] R (n - (13 + 3 * P + 2)) (by rw [blk_four]; exact d5)
      rw [hs, hun, if_pos (by decide)]
    have hun : unV (fun i => b (13 + 3 * P + 2 + i)) (n - (13 + 3 * P + 2)) = ([1, 0, 0, x], 6, 0) := by
      obtain ⟨R1, hR1⟩ : ∃ R1, R1 = R.take (n - (13 + 3 * P + 2) - 6) := ⟨_, rfl⟩
      have hlen : R1.length = n - (13 + 3 * P + 2) - 6 := by rw [hR1, List.length_take]; omega
      have hb2 := un_back [1, 0, 0, x] R1
      have hl : (blkV [1, 0, 0, x] ++ R1).length = n - (13 + 3 * P + 2) := by rw [blk_four, List.length_append, hlen]; simp; omega
      rw [hl] at hb2
      rw [hs]
      refine Eq.trans (un_ext _ _ _ (fun i hi => ?_)) (hb2.trans (by rw [blk_four]; rfl))
      by_cases h6 : i < 6
      · rw [gz_append_left (by rw [blk_four]; exact h6), gz_append_left (by rw [blk_four]; exact h6)]
      · rw [show i = (blkV [1, 0, 0, x]).length + (i - 6) by rw [blk_four]; simp; omega, gz_append_right, gz_append_right, hR1]
        unfold gz
        rw [List.getElem?_take, if_pos (by omega)]
    obtain ⟨hf, hd1⟩ := frame_cut D tl h (H13 ++ T ++ E) (tabC b 13 P) hcols b n (13 + 3 * P + 2 + 6) (by rw [hb, hF, hR]; simp) (by omega) (by rw [List.length_append, hpl, hEl8])
    rw [hun]
    dsimp only
    rw [if_neg (by simp), q1, if_pos rfl, if_neg (by simp)]
    obtain ⟨K, hK⟩ : ∃ K, n = K + 1 := ⟨n - 1, by omega⟩
    have hgx : (if gz [1, 0, 0, x] 0 % 2 = 1 then ((gz [1, 0, 0, x] 3 : Nat) : Int) else -1) = (x : Int) := by
      have a0 : gz [1, 0, 0, x] 0 = 1 := rfl
      have a3 : gz [1, 0, 0, x] 3 = x := rfl
      rw [a0, a3, if_pos (by omega)]
    rw [hgx]
    have : ∀ K, n = K + 1 → partsG b n W H (tabC b 13 P) (K + 1) (13 + 3 * P + 2 + 6) (x : Int) = (noP, 2) := fun K _ => by
      rw [partsG]
      by_cases d6 : n ≤ 13 + 3 * P + 2 + 6
      · rw [if_pos d6]
      · rw [if_neg d6, if_pos hf, hd1]
    have h9 := this K hK
    rw [← hK] at h9
    exact h9
  · have hE0 : E = [] := by rw [hE, if_neg hcl]
    have hcm : cl = -1 := by have := h.cr; omega
    have hEl0 : E.length = 0 := by rw [hE0]; rfl
    obtain ⟨hf, hd1⟩ := frame_cut D tl h (H13 ++ T) (tabC b 13 P) hcols b n (13 + 3 * P) (by rw [hb, hF, hE0, hR]; simp) (by omega) (by rw [List.length_append, h13l, hTl])
    rw [if_pos hf, ← hcm, hd1]
end
end Go.Proofs.Ytkjlejkcedemlaa

namespace Go.Proofs.Ytkjlejkcedemlaa
set_option maxRecDepth 100000
set_option linter.unusedVariables false

/-- The plainest codes of values, as bytes. -/
def wlz (sz : Nat) (l : List Nat) : List Nat := (pack false (cb (sz + 1) ((plC (2 ^ sz) l).2 ++ [2 ^ sz + 1]))).1
theorem wlz_lt (sz : Nat) (l : List Nat) : ∀ v ∈ wlz sz l, v < 256 := pack_lt' false _ (cb_lt _ _)
theorem wlz_facts (sz : Nat) (h2 : 2 ≤ sz) (h8 : sz ≤ 8) (l : List Nat) (hl : ∀ v ∈ l, v < 2 ^ sz) (most : Nat) (hm : l.length ≤ most) :
    lzwV (gz (wlz sz l)) (wlz sz l).length ((sz : Nat) : Int) ((most : Nat) : Int) = (l, 0) ∧ (wlz sz l).length ≤ 3 * l.length + 4 := by
  have h4 : 4 ≤ 2 ^ sz := Nat.pow_le_pow_right (n := 2) (i := 2) (by omega) h2
  obtain ⟨g1, _, _, g4, g5⟩ := plC_ok h4 l hl
  have h := plain_all (most := most) h2 h8 rfl (plC (2 ^ sz) l).2 g1 (by rw [g4]; exact hm)
  rw [g4] at h
  refine ⟨h, ?_⟩
  unfold wlz
  rw [pack_len, cb_len, List.length_append, List.length_singleton]
  have : ((plC (2 ^ sz) l).2.length + 1) * (sz + 1) ≤ (2 * l.length + 2) * 9 := Nat.mul_le_mul (by omega) (by omega)
  omega
/-- The file of a picture, and what is behind its frame. -/
def gifP (c : Nat → Nat) (W H : Nat) (tl : List Nat) : List Nat := gifD W H (U c (W * H)) (clearIx (U c (W * H))) (bbN (U c (W * H)).length) (wlz (max 2 (bbN (U c (W * H)).length)) (pl c (W * H))) tl
theorem gifD_tail (W H : Nat) (L : List P4) (cl : Int) (bb : Nat) (D tl : List Nat) : gifD W H L cl bb D tl = gifD W H L cl bb D [] ++ tl := by simp [gifD]
theorem gifP_tail (c : Nat → Nat) (W H : Nat) (tl : List Nat) : gifP c W H tl = gifP c W H [] ++ tl := gifD_tail _ _ _ _ _ _ _
section
variable {W H : Nat} {c : Nat → Nat}
theorem gifP_len (hc : ∀ i, c i < 65536) (hfit : fitsB (W : Nat) (H : Nat) (4 * (W * H)) c 2 = true) : 14 ≤ (gifP c W H []).length ∧ (gifP c W H []).length ≤ 6 * (W * H) + 820 := by
  obtain ⟨_, h⟩ := gifok_of hc hfit
  obtain ⟨_, g2⟩ := wlz_facts (max 2 (bbN (U c (W * H)).length)) (by omega) (by have := h.b2; omega) (pl c (W * H)) h.lt _ (Nat.le_refl _)
  rw [pl_len] at g2
  have hb := blkV_len (wlz (max 2 (bbN (U c (W * H)).length)) (pl c (W * H)))
  have hP2 : 2 ^ bbN (U c (W * H)).length ≤ 256 := Nat.pow_le_pow_right (n := 2) (j := 8) (by omega) h.b2
  unfold gifP gifD
  simp only [List.length_append, tabR_len, List.length_cons, List.length_nil]
  have : (num2 W).length = 2 := rfl
  have : (num2 H).length = 2 := rfl
  split
  · simp only [List.length_cons, List.length_nil]; omega
  · simp only [List.length_nil]; omega
theorem gifP_lt (hc : ∀ i, c i < 65536) (hfit : fitsB (W : Nat) (H : Nat) (4 * (W * H)) c 2 = true) (tl : List Nat) (ht : ∀ v ∈ tl, v < 256) : ∀ v ∈ gifP c W H tl, v < 256 := by
  obtain ⟨_, h⟩ := gifok_of hc hfit
  have hb1 := h.b1
  have hb2 := h.b2
  have hw4 : ∀ p ∈ U c (W * H), w4 p := fun p hp => by
    obtain ⟨j, _, rfl⟩ := U_mem hp
    exact ⟨hc _, hc _, hc _, hc _⟩
  have hn2 : ∀ n, ∀ v ∈ num2 n, v < 256 := fun n v hv => by
    unfold num2 at hv
    simp only [List.mem_cons, List.not_mem_nil, or_false] at hv
    omega
  intro v hv
  unfold gifP gifD at hv
  simp only [List.mem_append, List.mem_cons, List.not_mem_nil, or_false] at hv
  rcases hv with ((g | (g | g)) | g) | g | g | (((g | (g | g)) | g) | (g | g))
  · omega
  · exact hn2 _ v g
  · exact hn2 _ v g
  · omega
  · unfold tabR at g
    rw [List.mem_map] at g
    obtain ⟨t, _, rfl⟩ := g
    split
    · unfold tbB
      have q : w4 (((U c (W * H))[t / 3]?).getD (0, 0, 0, 0)) := by
        cases q : (U c (W * H))[t / 3]? with
        | none => unfold w4; simp
        | some p => exact hw4 p (List.mem_of_getElem? q)
      obtain ⟨h1, h2, h3, h4⟩ := q
      unfold part4
      (repeat' split) <;> omega
    · omega
  · split at g
    · simp only [List.mem_cons, List.not_mem_nil, or_false] at g; omega
    · cases g
  · omega
  · exact hn2 _ v g
  · exact hn2 _ v g
  · omega
  · exact blkV_lt _ (wlz_lt _ _) v g
  · exact ht v g
theorem gifP_back (hc : ∀ i, c i < 65536) (hfit : fitsB (W : Nat) (H : Nat) (4 * (W * H)) c 2 = true) (tl : List Nat) (ht : tl.length ≤ 100000) :
    lowD (gz (gifP c W H tl)) 6 2 = W ∧ lowD (gz (gifP c W H tl)) 8 2 = H ∧ ∃ d, gifG (gz (gifP c W H tl)) (gifP c W H tl).length = (d, 0) ∧ ∀ t, t < 4 * (W * H) → d t = c t := by
  obtain ⟨hz, h⟩ := gifok_of hc hfit
  obtain ⟨g1, _⟩ := wlz_facts (max 2 (bbN (U c (W * H)).length)) (by omega) (by have := h.b2; omega) (pl c (W * H)) h.lt (W * H) (by rw [pl_len]; exact Nat.le_refl _)
  have hl := (gifP_len hc hfit).2
  have hn := h.n2
  exact gif_backD _ tl g1 h hz _ _ rfl rfl (by show (gifP c W H tl).length ≤ _; rw [gifP_tail, List.length_append]; omega)
theorem gifP_cut (hc : ∀ i, c i < 65536) (hfit : fitsB (W : Nat) (H : Nat) (4 * (W * H)) c 2 = true) (tl : List Nat) (n : Nat) (hn : n < (gifP c W H []).length) : gifG (gz (gifP c W H tl)) n = (noP, 2) := by
  obtain ⟨hz, h⟩ := gifok_of hc hfit
  have hl := (gifP_len hc hfit).2
  have hn2 := h.n2
  have e : (gifP c W H tl).length = (gifP c W H []).length + tl.length := by rw [gifP_tail, List.length_append]
  exact gif_cut _ tl h hz _ _ rfl (by show n + tl.length < (gifP c W H tl).length; omega) (by omega)
/-- What stands at a file's beginning. -/
theorem gifP_head (hc : ∀ i, c i < 65536) (hfit : fitsB (W : Nat) (H : Nat) (4 * (W * H)) c 2 = true) (tl : List Nat) : isGif (gz (gifP c W H tl)) = true := by
  have e : ∀ k, k < 13 → gz (gifP c W H tl) k = gz ([71, 73, 70, 56, 57, 97] ++ (num2 W ++ num2 H) ++ [127 + bbN (U c (W * H)).length, 0, 0]) k := fun k hk => gz_append_left (by simp [num2]; omega)
  unfold isGif
  rw [e 0 (by omega), e 1 (by omega), e 2 (by omega), e 3 (by omega), e 4 (by omega), e 5 (by omega)]
  rfl
end
/-- A screen of nothing. -/
theorem gif_none (b : Nat → Nat) (n : Nat) (h1 : 13 ≤ n) (h2 : n ≤ 262144) (hg : isGif b = true) (h6 : b 6 = 0) (h7 : b 7 = 0) : gifG b n = (noP, 6) := by
  have hl : lowD b 6 2 = 0 := by rw [low_two, h6, h7]
  unfold gifG
  rw [if_neg (by omega), if_neg (by omega), if_neg (by rw [hg]; simp), hl, if_pos (by simp [sizeE])]
/-- Another beginning. -/
theorem gif_form (b : Nat → Nat) (n : Nat) (h1 : 13 ≤ n) (h2 : n ≤ 262144) (hg : isGif b = false) : gifG b n = (noP, 4) := by
  unfold gifG
  rw [if_neg (by omega), if_neg (by omega), if_pos hg]
theorem finC_err (b : Nat → Nat) (n cl sz most : Nat) : ∀ (k : Nat) (s : Cz), (finC b n cl sz most k s).2 ≤ 6 := by
  intro k
  induction k with
  | zero => intro s; simp [finC]
  | succ k ih =>
    intro s
    rw [finC]
    split
    · simp
    · split
      · exact ih _
      · split
        · simp
        · split
          · simp
          · split
            · simp
            · exact ih _
theorem lzwV_err (b : Nat → Nat) (n : Nat) (size most : Int) : (lzwV b n size most).2 ≤ 6 := by
  unfold lzwV
  split
  · simp
  · exact finC_err _ _ _ _ _ _ _
theorem pixG_err (b : Nat → Nat) (n p W H left top fw fh : Nat) (laced : Bool) (cols : List P4) (clear : Int) : (pixG b n p W H left top fw fh laced cols clear).2 ≤ 6 := by
  unfold pixG
  split
  · simp
  · split
    · simp
    · split
      · simp
      · split
        · have := unF_err (fun i => b (p + 1 + i)) (n - (p + 1)) (n - (p + 1) + 1) 0 []
          unfold unV
          dsimp only
          omega
        · split
          · exact lzwV_err _ _ _ _
          · split
            · simp
            · split
              · simp
              · simp
theorem frameG_err (b : Nat → Nat) (n p W H : Nat) (cols : List P4) (clear : Int) : (frameG b n p W H cols clear).2 ≤ 6 := by
  unfold frameG
  split
  · simp
  · split
    · simp
    · split
      · split
        · simp
        · exact pixG_err _ _ _ _ _ _ _ _ _ _ _ _
      · exact pixG_err _ _ _ _ _ _ _ _ _ _ _ _
theorem partsG_err (b : Nat → Nat) (n W H : Nat) (cols : List P4) : ∀ (K p : Nat) (clear : Int), (partsG b n W H cols K p clear).2 ≤ 6 := by
  intro K
  induction K with
  | zero => intro p clear; simp [partsG]
  | succ K ih =>
    intro p clear
    rw [partsG]
    split
    · simp
    · split
      · exact frameG_err _ _ _ _ _ _ _
      · split
        · simp
        · split
          · simp
          · split
            · have := unF_err (fun i => b (p + 2 + i)) (n - (p + 2)) (n - (p + 2) + 1) 0 []
              unfold unV
              dsimp only
              omega
            · split
              · split
                · simp
                · exact ih _ _
              · exact ih _ _
theorem gifG_lt (b : Nat → Nat) (n : Nat) : (gifG b n).2 < 1000 := by
  unfold gifG
  split
  · simp
  · split
    · simp
    · split
      · simp
      · split
        · simp
        · split
          · split
            · simp
            · exact Nat.lt_of_le_of_lt (partsG_err _ _ _ _ _ _ _ _) (by omega)
          · exact Nat.lt_of_le_of_lt (partsG_err _ _ _ _ _ _ _ _) (by omega)
theorem gifG_size (b : Nat → Nat) (n : Nat) (h : (gifG b n).2 = 0) : sizeE (lowD b 6 2 : Nat) (lowD b 8 2 : Nat) = 0 := by
  unfold gifG at h
  split at h
  · simp at h
  · split at h
    · simp at h
    · split at h
      · simp at h
      · split at h
        · simp at h
        · exact Decidable.byContradiction fun hn => by contradiction
end Go.Proofs.Ytkjlejkcedemlaa

namespace Go.Proofs.Ytkjlejkcedemlaa
set_option maxRecDepth 100000
set_option linter.unusedVariables false
open Go.ChangeShapes Go.WideShapes Go.ChangeAt Go.RowKit

theorem decode_plain {W H : Nat} {c : Nat → Nat} (hc : ∀ i, c i < 65536) (hfit : fitsB (W : Nat) (H : Nat) (4 * (W * H)) c 2 = true) (tl : List Nat) (ht : ∀ v ∈ tl, v < 256) (htl : tl.length ≤ 100000)
    (A : Option Addr) (m cap : Nat) (hm : m = (gifP c W H tl).length) (b : Nat → Nat) (hb : b = gz (gifP c W H tl)) (h1 : m ≤ cap) (h2 : cap ≤ maxLen) (h3 : A = none → cap = 0) (w : World) (hB : Byt w A m b) :
    Calls Try.prog 9 #[.slice A m cap] w fun e w' => ∃ A' cap', e = .returned (.tuple #[.agg #[.int .i64 (W : Nat), .int .i64 (H : Nat), .slice A' (4 * (W * H)) cap'], .int .i64 0]) ∧ 4 * (W * H) ≤ cap' ∧ cap' ≤ maxLen ∧ Own w.heap.size w' A' (4 * (W * H)) c ∧ Below w.heap.size w w' := by
  obtain ⟨g6, g8, d, hd, hdc⟩ := gifP_back hc hfit tl htl
  rw [← hb] at g6 g8 hd
  rw [← hm] at hd
  refine (decode_g A m cap b (fun i => by rw [hb]; exact gz_lt (gifP_lt hc hfit tl ht) i) h1 h2 h3 w hB).mono ?_
  rintro e w' ⟨hB', ⟨h0, A', cap', k1, k2, rfl, hO⟩ | ⟨h0, _⟩⟩
  · rw [g6, g8] at k1 hO ⊢
    rw [hd] at hO
    refine ⟨A', cap', rfl, k1, k2, fun hn => ?_, hB'⟩
    obtain ⟨g, cur, rfl, q1, q2, q3, q4⟩ := hO hn
    exact ⟨g, cur, rfl, q1, q2, q3, fun j hj => by rw [q4 j hj, ← hdc j hj]⟩
  · exact absurd (congrArg Prod.snd hd) h0
theorem decode_err (k : Nat) (hk : k ≠ 0) (A : Option Addr) (m cap : Nat) (b : Nat → Nat) (hbt : ∀ i, b i < 256) (hg : gifG b m = (noP, k)) (h1 : m ≤ cap) (h2 : cap ≤ maxLen) (h3 : A = none → cap = 0) (w : World) (hB : Byt w A m b) :
    Calls Try.prog 9 #[.slice A m cap] w fun e w' => e = .returned (.tuple #[.agg #[.int .i64 0, .int .i64 0, .slice none 0 0], .int .i64 (k : Nat)]) ∧ Below w.heap.size w w' := by
  refine (decode_g A m cap b hbt h1 h2 h3 w hB).mono ?_
  rw [hg]
  rintro e w' ⟨hB', ⟨h0, _⟩ | ⟨_, rfl⟩⟩
  · exact absurd h0 hk
  · exact ⟨rfl, hB'⟩
theorem gif_short0 (b : Nat → Nat) : gifG b 0 = (noP, 2) := by
  unfold gifG
  rw [if_neg (by omega), if_pos (by omega)]
end Go.Proofs.Ytkjlejkcedemlaa
