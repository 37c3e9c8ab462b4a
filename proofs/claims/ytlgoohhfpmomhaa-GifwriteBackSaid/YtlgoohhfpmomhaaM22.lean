/- gifread.tried: what a closure broke with. gifread.Decode. GifwriteBack: the walk. -/
import Derived.Test.YtlgoohhfpmomhaaM21

namespace Go.Proofs.Ytlgoohhfpmomhaa
set_option maxRecDepth 100000
set_option linter.unusedVariables false
open Go.ChangeShapes Go.WideShapes Go.ChangeAt Go.RowKit

set_option maxRecDepth 100000 in
theorem gcatch_idle (p : Addr) (w : World) :
    CallsD Try.prog 48 #[.pointer (some p)] .returning w fun e u' w' => e = .returned (.tuple #[]) ∧ u' = .returning ∧ w' = w := by
  refine callsD_of_wpS Try.func48 rfl fun c₀ cs hu => ?_
  apply wpS_seq
  apply wpS_region
  simp [wpOpsS, go_sem, recoverD, hu, Try.ntmps48, Exit.thenS]
  refine wpS_of_wp ?_
  simp only [Array.replicate, List.replicate]
  go_wp2
  cases c₀
  simp_all [bodyPostS, results, Try.results48]
set_option maxRecDepth 100000 in
theorem gcatch_err (p : Addr) (x : Value) (k : Int) (older : List PanicEntry) (w : World) (hc : w.cell? p = some x) (hz : w.frozen? p = false) :
    CallsD Try.prog 48 #[.pointer (some p)] (.panicking ({ v := .iface 33 (.int .i64 k), recovered := false } :: older)) w fun e u' w' =>
      e = .returned (.tuple #[]) ∧ u' = .panicking ({ v := .iface 33 (.int .i64 k), recovered := true } :: older) ∧ w' = w.setCell p (.int .i64 k) := by
  have t2 := ta2
  refine callsD_of_wpS Try.func48 rfl fun c₀ cs hu => ?_
  apply wpS_seq
  apply wpS_region
  simp [wpOpsS, go_sem, recoverD, hu, Try.ntmps48, Exit.thenS]
  refine wpS_of_wp ?_
  simp only [Array.replicate, List.replicate]
  go_wp2
  cases c₀
  simp_all [bodyPostS, results, Try.results48]
set_option maxRecDepth 100000 in
set_option maxHeartbeats 1000000 in
theorem gtried (k : FuncId) (caps : Array Value) (hent : EntersL k caps) (w : World) (R : World → Prop) (Q : Nat → World → Prop)
    (hk : Calls Try.prog k caps (w.alloc (.cells #[.int .i64 0] 33)) fun e w' => w'.heap[w.heap.size]? = some (.cells #[.int .i64 0] 33 (0, 0)) ∧ ((e = .returned (.tuple #[]) ∧ R w') ∨ (∃ q : Nat, PanE (q : Nat) e ∧ Q q w'))) :
    Calls Try.prog 30 #[.func (.func k) #[] caps] w fun e w' => ∃ (q : Nat) (w1 : World), e = .returned (.int .i64 (q : Nat)) ∧ w1.heap[w.heap.size]? = some (.cells #[.int .i64 0] 33 (0, 0)) ∧
      w' = w1.setCell ⟨w.heap.size, 0, none⟩ (.int .i64 (q : Nat)) ∧ ((q = 0 ∧ R w1) ∨ Q q w1) := by
  have hmf : ∀ (fn : Fn) (first cap : Array Value) (w : World), (Instr.makeFunc fn first cap).run Try.prog w = .ok (.func fn first cap) w := fun _ _ _ _ => rfl
  go_enter_defers Try.func30, Try.ntmps30
  go_wp2_with fail
  rw [hent, Oper.upon_enter]
  refine hk.mono ?_
  rintro e w1 ⟨hb, hd⟩
  have h0 : w1.cell? ⟨w.heap.size, 0, none⟩ = some (.int .i64 0) := by simp [World.cell?, hb]
  have hf : ∀ j, w1.frozen? ⟨w.heap.size, j, none⟩ = false := fun j => by simp [World.frozen?, hb]
  have hl : w.heap.size < w1.heap.size := (Array.getElem?_eq_some_iff.1 hb).1
  have he := (Array.getElem?_eq_some_iff.1 hb).2
  have h1 : ∀ q : Int, (w1.setCell ⟨w.heap.size, 0, none⟩ (.int .i64 q)).cell? ⟨w.heap.size, 0, none⟩ = some (.int .i64 q) := fun q => by simp [World.cell?, World.setCell, hl, he, Array.getElem_modify]
  have HB := Lib.hid hb
  have HH1 := Lib.hid h1
  clear hb he h1 hk
  rcases hd with ⟨rfl, hR⟩ | ⟨q, rfl, hQ⟩
  · go_wp2
    refine leaves_cons (f := 48) (args := #[.pointer (some ⟨w.heap.size, 0, none⟩)]) (by simp) (by simp [go_sem]) ?_
    refine (gcatch_idle ⟨w.heap.size, 0, none⟩ _).mono ?_
    rintro e u' w'' ⟨rfl, rfl, rfl⟩
    refine ⟨.int .i64 0, ?_, ?_⟩
    · simp [results, Try.results30, go_sem, HH1.out 0]
    · exact ⟨0, w1, rfl, HB.out, rfl, .inl ⟨rfl, hR⟩⟩
  · go_wp2
    refine leaves_cons (f := 48) (args := #[.pointer (some ⟨w.heap.size, 0, none⟩)]) (by simp) (by simp [go_sem]) ?_
    refine (gcatch_err ⟨w.heap.size, 0, none⟩ _ q [] _ h0 (hf 0)).mono ?_
    rintro e u' w'' ⟨rfl, rfl, rfl⟩
    simp [Leaves, settle, results, Try.results30, go_sem, HH1.out]
    exact ⟨q, rfl, w1, HB.out, rfl, .inr hQ⟩
end Go.Proofs.Ytlgoohhfpmomhaa

namespace Go.Proofs.Ytlgoohhfpmomhaa
set_option maxRecDepth 100000
set_option linter.unusedVariables false
open Go.ChangeShapes Go.WideShapes Go.ChangeAt Go.RowKit

set_option maxRecDepth 100000 in
set_option maxHeartbeats 2000000 in
theorem gclo (g m bx rv : Nat) (b : Nat → Nat) (hbt : ∀ i, b i < 256) (hsm : m ≤ 262144) (h13 : 13 ≤ m) (w : World) (hG : GdS g m 0 b (.slice none 0 0) (-1) w) (W H : Nat) (hW : lowD b 6 2 = W) (hH : lowD b 8 2 = H)
    (hbx : w.heap[bx]? = some (.cells #[.pointer (some ⟨g, 0, none⟩)] 68 (0, 0))) (hrv : w.heap[rv]? = some (.cells #[.int .i64 0, .int .i64 0, .slice none 0 0] 27 (0, 0))) (hne : g < rv) :
    Calls Try.prog 31 #[.pointer (some ⟨bx, 0, none⟩), .pointer (some ⟨rv, 0, none⟩)] w fun e w' => Chg [g, rv] w w' ∧ (((headG b m W H).2 = 0 ∧ e = .returned (.tuple #[]) ∧ ∃ ga cap, w.heap.size ≤ ga ∧ 4 * (W * H) ≤ cap ∧ cap ≤ maxLen ∧ w'.heap[rv]? = some (.cells #[.int .i64 (W : Nat), .int .i64 (H : Nat), .slice (some ⟨ga, 0, none⟩) (4 * (W * H)) cap] 27 (0, 0)) ∧ Own 0 w' (some ⟨ga, 0, none⟩) (4 * (W * H)) (headG b m W H).1) ∨ ((headG b m W H).2 ≠ 0 ∧ PanE ((headG b m W H).2 : Nat) e)) := by
  have c0 := hp_cell (j := 0) hbx rfl
  have HP := Lib.hid (picture_g g m b hbt hsm h13 w hG W H hW hH)
  have HRV := Lib.hid hrv
  have hrl := lt_heap hrv
  clear hG hbx hrv hW hH
  obtain ⟨r, hr⟩ : ∃ r, r = headG b m W H := ⟨_, rfl⟩
  rw [← hr] at HP ⊢
  clear hr
  go_enter Try.func31, Try.ntmps31
  go_wp2_with fail
  refine HP.out.mono ?_
  rintro e w1 ⟨hC, ⟨h0, ga, cap, hga, hn, hc, rfl, hO⟩ | ⟨h0, hpe⟩⟩
  · have hrv1 := hp_chg HRV.out hC (by simp; omega)
    have l0 := hp_cell (j := 0) hrv1 rfl
    have l1 := hp_cell (j := 1) hrv1 rfl
    have l2 := hp_cell (j := 2) hrv1 rfl
    have lf := hp_froz hrv1
    have HC := Lib.hid (((((hC.mono (T := [g, rv]) (by simp)).set (g := rv) (.inl (by simp)) 0 (.int .i64 (W : Nat))).set (g := rv) (.inl (by simp)) 1 (.int .i64 (H : Nat))).set (g := rv) (.inl (by simp)) 2 (.slice (some ⟨ga, 0, none⟩) (4 * (W * H)) cap)))
    have HV := Lib.hid (heap_set (i := 2) (x := .slice (some ⟨ga, 0, none⟩) (4 * (W * H)) cap) (heap_set (i := 1) (x := .int .i64 (H : Nat)) (heap_set (i := 0) (x := .int .i64 (W : Nat)) hrv1)))
    have hgr : rv ≠ ga := by omega
    have HO : Hid (Own 0 (((w1.setCell ⟨rv, 0, none⟩ (.int .i64 (W : Nat))).setCell ⟨rv, 1, none⟩ (.int .i64 (H : Nat))).setCell ⟨rv, 2, none⟩ (.slice (some ⟨ga, 0, none⟩) (4 * (W * H)) cap)) (some ⟨ga, 0, none⟩) (4 * (W * H)) r.1) := Lib.hid (fun h9 => by
      obtain ⟨k, cur, he, h1, hg, h2⟩ := hO h9
      cases he
      exact ⟨ga, cur, rfl, h1, hp_oth (hp_oth (hp_oth hg (fun e => hgr e.symm)) (fun e => hgr e.symm)) (fun e => hgr e.symm), h2⟩)
    have H0 := Lib.hid h0
    clear hC hO hrv1 h0
    go_wp2_with fail
    go_end0
    exact ⟨HC.out, .inl ⟨H0.out, rfl, ga, cap, hga, hn, hc, HV.out, HO.out⟩⟩
  · have HC := Lib.hid (hC.mono (T := [g, rv]) (by simp))
    have H0 := Lib.hid h0
    clear hC h0
    obtain rfl := hpe
    go_wp2_with fail
    exact ⟨rfl, HC.out, .inr ⟨H0.out, rfl⟩⟩
theorem gent : ∀ x y : Nat, EntersL 31 #[.pointer (some ⟨x, 0, none⟩), .pointer (some ⟨y, 0, none⟩)] := fun x y W => by kernel_rfl
set_option maxRecDepth 100000 in
set_option maxHeartbeats 4000000 in
theorem decode_g (A : Option Addr) (m cap : Nat) (b : Nat → Nat) (hbt : ∀ i, b i < 256) (hm : m ≤ cap) (hmax : cap ≤ maxLen) (hA : A = none → cap = 0) (w : World) (hB : Byt w A m b) :
    Calls Try.prog 16 #[.slice A m cap] w (picPost (lowD b 6 2) (lowD b 8 2) (gifG b m) w) := by
  have HB := Lib.hid hB
  have HBT := Lib.hid hbt
  have HA := Lib.hid hA
  have HMX := Lib.hid hmax
  unfold maxLen at hmax
  clear hB hbt hA
  obtain ⟨r, hr⟩ : ∃ r, r = gifG b m := ⟨_, rfl⟩
  rw [← hr]
  unfold gifG at hr
  have HR := Lib.hid hr
  clear hr
  obtain ⟨W, hW⟩ : ∃ W, lowD b 6 2 = W := ⟨_, rfl⟩
  obtain ⟨H, hH⟩ : ∃ H, lowD b 8 2 = H := ⟨_, rfl⟩
  rw [hW, hH]
  have HW := Lib.hid hW
  have HH := Lib.hid hH
  have hr0 := hp_new0 w (.cells #[.int .i64 0, .int .i64 0, .slice none 0 0] 27)
  have hW0 : Below w.heap.size w (w.alloc (.cells #[.int .i64 0, .int .i64 0, .slice none 0 0] 27)) := (Below.refl _ w).alloc (Nat.le_refl _) _
  have l0 := hp_cell (j := 0) hr0 rfl
  have l1 := hp_cell (j := 1) hr0 rfl
  have l2 := hp_cell (j := 2) hr0 rfl
  have lf : ∀ j, (w.alloc (.cells #[.int .i64 0, .int .i64 0, .slice none 0 0] 27)).frozen? ⟨w.heap.size, j, none⟩ = false := fun j => by rw [World.frozen?, hr0]; simp
  have HR0 := Lib.hid hr0
  have HW0 := Lib.hid hW0
  have HBW := Lib.hid (HB.out.below hW0)
  have hBel : ∀ (wx : World) (v0 v1 v2 : Value), Below w.heap.size w wx → Below w.heap.size w (((wx.setCell ⟨w.heap.size, 0, none⟩ v0).setCell ⟨w.heap.size, 1, none⟩ v1).setCell ⟨w.heap.size, 2, none⟩ v2) := fun wx v0 v1 v2 h =>
    ((h.setCell (p := ⟨w.heap.size, 0, none⟩) (Nat.le_refl _) _).setCell (p := ⟨w.heap.size, 1, none⟩) (Nat.le_refl _) _).setCell (p := ⟨w.heap.size, 2, none⟩) (Nat.le_refl _) _
  have HBel := Lib.hid hBel
  clear hr0 hW0 hW hH hBel
  go_enter Try.func16, Try.ntmps16
  by_cases e1 : 262144 < m
  · have t1 : decide (262144 < m) = true := by simp; omega
    have t1' : decide ((262144 : Int) < (m : Int)) = true := by simp; omega
    have hr := HR.out
    rw [if_pos e1] at hr
    have HE := Lib.hid hr
    clear hr
    go_wp2
    refine bodyPost_ret (v := .tuple #[.agg #[.int .i64 0, .int .i64 0, .slice none 0 0], .int .i64 3]) (by rw [results_cell_tmp rfl]; go_simp) rfl ?_
    rw [HE.out]
    exact ⟨by first | exact HW0.out | exact HBel.out _ _ _ _ HW0.out, .inr ⟨by decide, rfl⟩⟩
  have t1 : decide (262144 < m) = false := by simp; omega
  have t1' : decide ((262144 : Int) < (m : Int)) = false := by simp; omega
  by_cases e2 : m < 13
  · have t2 : decide (m < 13) = true := by simp; omega
    have t2' : decide ((m : Int) < 13) = true := by simp; omega
    have hr := HR.out
    rw [if_neg e1, if_pos e2] at hr
    have HE := Lib.hid hr
    clear hr
    go_wp2
    refine bodyPost_ret (v := .tuple #[.agg #[.int .i64 0, .int .i64 0, .slice none 0 0], .int .i64 2]) (by rw [results_cell_tmp rfl]; go_simp) rfl ?_
    rw [HE.out]
    exact ⟨by first | exact HW0.out | exact HBel.out _ _ _ _ HW0.out, .inr ⟨by decide, rfl⟩⟩
  have t2 : decide (m < 13) = false := by simp; omega
  have t2' : decide ((m : Int) < 13) = false := by simp; omega
  have hB6 : Byt (w.alloc (.cells #[.int .i64 0, .int .i64 0, .slice none 0 0] 27)) A 6 b := fun _ => by
    obtain ⟨bk, of, h1, h2, h3⟩ := HBW.out (by omega)
    exact ⟨bk, of, h1, h2, fun j hj => h3 j (by omega)⟩
  have hs := run_str (cap := cap) hB6
  have q7 := is87 b HBT.out
  have q9 := is89 b HBT.out
  obtain ⟨T6, hT6⟩ : ∃ T6, T6 = strB 6 b := ⟨_, rfl⟩
  rw [← hT6] at hs q7 q9
  have RH := run_hi A m cap 6 (by omega)
  rw [show ((6 : Nat) : Int) = 6 from rfl] at RH
  clear hB6 hT6
  by_cases e3 : isGif b = false
  · have hr := HR.out
    rw [if_neg e1, if_neg e2, if_pos e3] at hr
    have HE := Lib.hid hr
    unfold isGif at e3
    simp only [decide_eq_false_iff_not] at e3
    rw [decide_eq_false (fun h => e3 ⟨h.1, h.2.1, h.2.2.1, h.2.2.2.1, .inl h.2.2.2.2.1, h.2.2.2.2.2⟩)] at q7
    rw [decide_eq_false (fun h => e3 ⟨h.1, h.2.1, h.2.2.1, h.2.2.2.1, .inr h.2.2.2.2.1, h.2.2.2.2.2⟩)] at q9
    clear hr e3
    go_wp2_with fail
    refine bodyPost_ret (v := .tuple #[.agg #[.int .i64 0, .int .i64 0, .slice none 0 0], .int .i64 4]) (by rw [results_cell_tmp rfl]; go_simp) rfl ?_
    rw [HE.out]
    exact ⟨by first | exact HW0.out | exact HBel.out _ _ _ _ HW0.out, .inr ⟨by decide, rfl⟩⟩
  have hr := HR.out
  rw [if_neg e1, if_neg e2, if_neg e3, HW.out, HH.out] at hr
  have HE : Hid (r = headG b m W H) := Lib.hid hr
  clear hr HR
  have e4 : b 4 = 55 ∨ b 4 = 57 := by
    unfold isGif at e3
    simp only [decide_eq_false_iff_not, Classical.not_not] at e3
    exact e3.2.2.2.2.1
  have e5 : b 0 = 71 ∧ b 1 = 73 ∧ b 2 = 70 ∧ b 3 = 56 ∧ b 5 = 97 := by
    unfold isGif at e3
    simp only [decide_eq_false_iff_not, Classical.not_not] at e3
    exact ⟨e3.1, e3.2.1, e3.2.2.1, e3.2.2.2.1, e3.2.2.2.2.2⟩
  clear e3
  have e7 : (T6.toList == [71, 73, 70, 56, 55, 97]) = decide (b 4 = 55) := by rw [q7]; simp [e5]
  have e9 : (T6.toList == [71, 73, 70, 56, 57, 97]) = decide (b 4 = 57) := by rw [q9]; simp [e5]
  clear q7 q9 e5
  go_upto_region 5 with fail
  go_cut [17] (fun s23 wx => s23 = .bool false ∧ wx = (w.alloc (.cells #[.int .i64 0, .int .i64 0, .slice none 0 0] 27)))
  case first =>
    rcases e4 with e4 | e4
    · rw [decide_eq_true e4] at e7
      rw [decide_eq_false (by omega)] at e9
      clear e4
      go_wp2_with fail
      go_meet
      exact ⟨rfl, rfl⟩
    · rw [decide_eq_false (by omega)] at e7
      rw [decide_eq_true e4] at e9
      clear e4
      go_wp2_with fail
      go_meet
      exact ⟨rfl, rfl⟩
  case rest =>
  obtain ⟨rfl, rfl⟩ := hcut
  clear e7 e9 hs RH e4 t1 t1' t2 t2' l0 l1 l2 lf
  have hs1 : (w.alloc (.cells #[.int .i64 0, .int .i64 0, .slice none 0 0] 27)).heap.size = w.heap.size + 1 := by simp
  go_upto_region 9 with fail
  obtain ⟨w1, hw1⟩ : ∃ w1, w1 = w.alloc (.cells #[.int .i64 0, .int .i64 0, .slice none 0 0] 27) := ⟨_, rfl⟩
  rw [← hw1] at HR0 HW0 HBW hs1 ⊢
  clear hw1
  have a1 := hp_new0 w1 (.cells #[.slice A m cap, .slice none 0 0, .int .i64 (-1)] 70)
  have b1 : Below w1.heap.size w1 (w1.alloc (.cells #[.slice A m cap, .slice none 0 0, .int .i64 (-1)] 70)) := (Below.refl _ _).alloc (Nat.le_refl _) _
  have s1 : (w1.alloc (.cells #[.slice A m cap, .slice none 0 0, .int .i64 (-1)] 70)).heap.size = w.heap.size + 1 + 1 := by simp [hs1]
  obtain ⟨w2, hw2⟩ : ∃ w2, w2 = w1.alloc (.cells #[.slice A m cap, .slice none 0 0, .int .i64 (-1)] 70) := ⟨_, rfl⟩
  rw [← hw2] at a1 b1 s1 ⊢
  clear hw2
  rw [hs1] at a1
  have a2 := hp_new0 w2 (.cells #[.pointer (some ⟨w.heap.size + 1, 0, none⟩)] 68)
  have b2 : Below w2.heap.size w2 (w2.alloc (.cells #[.pointer (some ⟨w.heap.size + 1, 0, none⟩)] 68)) := (Below.refl _ _).alloc (Nat.le_refl _) _
  have s2 : (w2.alloc (.cells #[.pointer (some ⟨w.heap.size + 1, 0, none⟩)] 68)).heap.size = w.heap.size + 1 + 1 + 1 := by simp [s1]
  obtain ⟨w3, hw3⟩ : ∃ w3, w3 = w2.alloc (.cells #[.pointer (some ⟨w.heap.size + 1, 0, none⟩)] 68) := ⟨_, rfl⟩
  rw [← hw3] at a2 b2 s2 ⊢
  clear hw3
  rw [s1] at a2
  have a3 := hp_new0 w3 (.cells #[.int .i64 0, .int .i64 0, .slice none 0 0] 27)
  have b3 : Below w3.heap.size w3 (w3.alloc (.cells #[.int .i64 0, .int .i64 0, .slice none 0 0] 27)) := (Below.refl _ _).alloc (Nat.le_refl _) _
  have s3 : (w3.alloc (.cells #[.int .i64 0, .int .i64 0, .slice none 0 0] 27)).heap.size = w.heap.size + 1 + 1 + 1 + 1 := by simp [s2]
  obtain ⟨w4, hw4⟩ : ∃ w4, w4 = w3.alloc (.cells #[.int .i64 0, .int .i64 0, .slice none 0 0] 27) := ⟨_, rfl⟩
  rw [← hw4] at a3 b3 s3 ⊢
  clear hw4
  rw [s2] at a3
  have b14 : Below w1.heap.size w1 w4 := b1.trans ((b2.trans (b3.mono (by omega))).mono (by omega))
  have b5 : Below w4.heap.size w4 (w4.alloc (.cells #[.int .i64 0] 33)) := (Below.refl _ _).alloc (Nat.le_refl _) _
  have hx1 := hp_below a1 (b2.trans (b3.mono (by omega))) (by omega)
  have hx2 := hp_below a2 b3 (by omega)
  have hz := hp_new0 w4 (.cells #[.int .i64 0] 33)
  have hBY := (HBW.out.below b14).below b5
  have hG : GdS (w.heap.size + 1) m 0 b (.slice none 0 0) (-1) (w4.alloc (.cells #[.int .i64 0] 33)) := by
    refine ⟨by rw [World.size_alloc, s3]; omega, by omega, A, cap, hp_alloc _ hx1, hm, HMX.out, HA.out, fun a ha => ?_, fun hn => ?_⟩
    · obtain ⟨bk, of, h1, h2, _⟩ := HB.out (by omega)
      rw [h1] at ha
      cases ha
      show bk < w.heap.size + 1
      omega
    · obtain ⟨bk, of, h1, h2, h3⟩ := hBY (by omega)
      exact ⟨bk, of, h1, h2, fun j hj => by rw [h3 j (by omega)]; simp⟩
  have hclo := gclo (w.heap.size + 1) m (w.heap.size + 1 + 1) (w.heap.size + 1 + 1 + 1) b HBT.out (by omega) (by omega) _ hG W H HW.out HH.out (hp_alloc _ hx2) (hp_alloc _ a3) (by omega)
  rw [← HE.out] at hclo
  have hs5 : (w4.alloc (.cells #[.int .i64 0] 33)).heap.size = w4.heap.size + 1 := by simp
  obtain ⟨w5, hw5⟩ : ∃ w5, w4.alloc (.cells #[.int .i64 0] 33) = w5 := ⟨_, rfl⟩
  rw [hw5] at hclo hs5 b5 hz
  have HW5 := Lib.hid hw5
  have HK := Lib.hid hclo
  have HZ := Lib.hid hz
  have HB5 := Lib.hid (HW0.out.trans ((b14.trans (b5.mono (by omega))).mono (by omega)))
  have HR5 := Lib.hid (hp_below (hp_below HR0.out b14 (by omega)) b5 (by omega))
  have hT := gtried 31 #[.pointer (some ⟨w.heap.size + 1 + 1, 0, none⟩), .pointer (some ⟨w.heap.size + 1 + 1 + 1, 0, none⟩)] (gent _ _) w4
    (fun w' => Chg [w.heap.size + 1, w.heap.size + 1 + 1 + 1] w5 w' ∧ r.2 = 0 ∧ ∃ ga cap, w5.heap.size ≤ ga ∧ 4 * (W * H) ≤ cap ∧ cap ≤ maxLen ∧ w'.heap[w.heap.size + 1 + 1 + 1]? = some (.cells #[.int .i64 (W : Nat), .int .i64 (H : Nat), .slice (some ⟨ga, 0, none⟩) (4 * (W * H)) cap] 27 (0, 0)) ∧ Own 0 w' (some ⟨ga, 0, none⟩) (4 * (W * H)) r.1)
    (fun q w' => Chg [w.heap.size + 1, w.heap.size + 1 + 1 + 1] w5 w' ∧ r.2 = q ∧ q ≠ 0) (by
      rw [hw5]
      refine HK.out.mono ?_
      rintro e w' ⟨hC, hd⟩
      refine ⟨hp_chg HZ.out hC (by simp; omega), ?_⟩
      rcases hd with ⟨h0, rfl, ga, cap', q1, q2, q3, q4, q5⟩ | ⟨h0, hpe⟩
      · exact .inl ⟨rfl, hC, h0, ga, cap', q1, q2, q3, q4, q5⟩
      · exact .inr ⟨r.2, hpe, hC, rfl, h0⟩)
  have HT := Lib.hid hT
  clear hclo hz a1 a2 a3 b1 b2 b3 b5 b14 hx1 hx2 hBY hG HR0 HW0 HBW HE hw5 hT HK
  go_wp2_with fail
  refine HT.out.mono ?_
  rintro e w7 ⟨q, w6, rfl, hq0, rfl, ⟨rfl, hC, h0, ga, cap', g1, g2, g3, g4, g5⟩ | ⟨hC, h0, hqn⟩⟩
  · have hw46 : w4.heap.size < w6.heap.size := lt_heap hq0
    have hres := hp_oth (g := w4.heap.size) (i := 0) (v := .int .i64 0) (hp_chg HR5.out hC (by simp; omega)) (by omega)
    have hrv := hp_oth (g := w4.heap.size) (i := 0) (v := .int .i64 0) g4 (by omega)
    have j0 := hp_cell (j := 0) hrv rfl
    have j1 := hp_cell (j := 1) hrv rfl
    have j2 := hp_cell (j := 2) hrv rfl
    have l0 := hp_cell (j := 0) hres rfl
    have l1 := hp_cell (j := 1) hres rfl
    have l2 := hp_cell (j := 2) hres rfl
    have lf := hp_froz hres
    have hb6 := HB5.out.trans (hC.below (B := w.heap.size) (by omega) (fun k hk => by simp at hk; omega))
    have HB6 := Lib.hid (hb6.setCell (p := ⟨w4.heap.size, 0, none⟩) (by simp; omega) (.int .i64 0))
    have HO6 : Hid (Own (w.heap.size + 1) (w6.setCell ⟨w4.heap.size, 0, none⟩ (.int .i64 0)) (some ⟨ga, 0, none⟩) (4 * (W * H)) r.1) := Lib.hid (fun h9 => by
      obtain ⟨k, cur, he, _, hg, h2⟩ := g5 h9
      cases he
      exact ⟨ga, cur, rfl, by omega, hp_oth hg (by omega), h2⟩)
    have H0 := Lib.hid h0
    clear hq0 hC h0 g4 g5 hres hrv hb6
    generalize w6.setCell ⟨w4.heap.size, 0, none⟩ (.int .i64 0) = w7 at *
    go_wp2
    refine bodyPost_ret (v := .tuple #[.agg #[.int .i64 (W : Nat), .int .i64 (H : Nat), .slice (some ⟨ga, 0, none⟩) (4 * (W * H)) cap'], .int .i64 0]) (by rw [results_cell_tmp rfl]; go_simp) rfl ?_
    exact ⟨HBel.out _ _ _ _ HB6.out, .inl ⟨H0.out, some ⟨ga, 0, none⟩, cap', g2, g3, rfl, (((HO6.out.set (g := w.heap.size) (by omega) 0 _).set (g := w.heap.size) (by omega) 1 _).set (g := w.heap.size) (by omega) 2 _).le (by omega)⟩⟩
  · have hw46 : w4.heap.size < w6.heap.size := lt_heap hq0
    have hres := hp_oth (g := w4.heap.size) (i := 0) (v := .int .i64 (q : Nat)) (hp_chg HR5.out hC (by simp; omega)) (by omega)
    have l0 := hp_cell (j := 0) hres rfl
    have l1 := hp_cell (j := 1) hres rfl
    have l2 := hp_cell (j := 2) hres rfl
    have lf := hp_froz hres
    have hb6 := HB5.out.trans (hC.below (B := w.heap.size) (by omega) (fun k hk => by simp at hk; omega))
    have HB6 := Lib.hid (hb6.setCell (p := ⟨w4.heap.size, 0, none⟩) (by simp; omega) (.int .i64 (q : Nat)))
    have H0 := Lib.hid h0
    have HQ := Lib.hid hqn
    have t5 : ((q : Int) != 0) = true := by rw [bne_iff_ne]; omega
    clear hq0 hC h0 hres hb6 hqn
    generalize w6.setCell ⟨w4.heap.size, 0, none⟩ (.int .i64 (q : Nat)) = w7 at *
    go_wp2
    refine bodyPost_ret (v := .tuple #[.agg #[.int .i64 0, .int .i64 0, .slice none 0 0], .int .i64 (q : Nat)]) (by rw [results_cell_tmp rfl]; go_simp) rfl ?_
    exact ⟨by first | exact HB6.out | exact HBel.out _ _ _ _ HB6.out, .inr ⟨by rw [H0.out]; exact HQ.out, by rw [H0.out]⟩⟩
end Go.Proofs.Ytlgoohhfpmomhaa

namespace Go.Proofs.Ytlgoohhfpmomhaa
set_option maxRecDepth 100000
set_option linter.unusedVariables false
open Go.ChangeShapes Go.WideShapes Go.ChangeAt Go.RowKit

/-- gifread.Decode of a file that was written. -/
theorem gifd_back (W H n m : Nat) (hn : n = 4 * (W * H)) (c : Nat → Nat) (hc : ∀ i, c i < 65536) (hfit : fitsB (W : Nat) (H : Nat) n c 2 = true) (hm : m = (gifF c W H).length) (A : Option Addr) (cap B : Nat) (w : World) (hN : NewB B w m A cap (gz (gifF c W H))) :
    Calls Try.prog 16 #[.slice A m cap] w fun e w' => ∃ A' cap', e = .returned (.tuple #[.agg #[.int .i64 (W : Nat), .int .i64 (H : Nat), .slice A' n cap'], .int .i64 0]) ∧ n ≤ cap' ∧ cap' ≤ maxLen ∧ Own w.heap.size w' A' n c ∧ Below w.heap.size w w' := by
  subst hn hm
  obtain ⟨hz, hok⟩ := gifok_of hc hfit
  obtain ⟨g6, g8, _, d, hd, hdc⟩ := gif_back hok hz (gz (gifF c W H)) (gifF c W H).length rfl rfl
  refine (decode_g A _ cap _ (gifF_lt hc hfit) hN.le hN.max hN.nil w hN.byt).mono ?_
  rintro e w' ⟨hB, ⟨h0, A', cap', h1, h2, rfl, hO⟩ | ⟨h0, _⟩⟩
  · rw [g6, g8] at h1 hO ⊢
    rw [hd] at hO
    refine ⟨A', cap', rfl, h1, h2, fun hn => ?_, hB⟩
    obtain ⟨g, cur, rfl, q1, q2, q3, q4⟩ := hO hn
    exact ⟨g, cur, rfl, q1, q2, q3, fun j hj => by rw [q4 j hj, ← hdc j hj]⟩
  · exact absurd (congrArg Prod.snd hd) h0
theorem pic_two' {a b : Int} {n : Nat} {c : Nat → Nat} (h : fitsB a b n c 2 = true) : ∃ W H : Nat, a = (W : Int) ∧ b = (H : Int) ∧ n = 4 * (W * H) ∧ (1 ≤ W ∧ W ≤ 256) ∧ (1 ≤ H ∧ H ≤ 256) ∧ W * H ≤ 16384 ∧ 0 < n := by
  obtain ⟨W, H, N, h1, h2, h3, h4, h5, h6, h7, h8, _⟩ := pic_two h
  exact ⟨W, H, h1, h2, by rw [h3, h4], h5, h6, by omega, by omega⟩
set_option maxRecDepth 100000 in
set_option maxHeartbeats 4000000 in
theorem gback_walk (a b : Int) (A : Option Addr) (n cap : Nat) (c : Nat → Nat) (hc : ∀ i, c i < 65536) (ha : In64 a) (hb : In64 b) (hn : n ≤ cap) (hmax : cap ≤ maxLen) (hz : A = none → cap = 0) (w : World) (hP : Pix w A n c) :
    Calls Try.prog 5 #[.agg #[.int .i64 a, .int .i64 b, .slice A n cap]] w fun e w' => e = .returned (.bool true) ∧ Below w.heap.size w w' := by
  have HB := Lib.hid ((Below.refl _ w).alloc (Nat.le_refl _) (.cells #[.int .i64 a, .int .i64 b, .slice A n cap] 27))
  have HX := Lib.hid (hp_new0 w (.cells #[.int .i64 a, .int .i64 b, .slice A n cap] 27))
  have HP := Lib.hid (hP.below HB.out)
  have HC := Lib.hid hc
  clear hP hc
  go_enter Try.func5, Try.ntmps5
  go_wp2_with fail
  generalize w.alloc (.cells #[.int .i64 a, .int .i64 b, .slice A n cap] 27) = w1 at *
  refine (awake17 _).mono ?_
  rintro e w2 ⟨rfl, hB2⟩
  have HB2 := Lib.hid (HB.out.trans (hB2.mono HB.out.size))
  have HX2 := Lib.hid (hp_below HX.out hB2 (lt_heap HX.out))
  have HP2 := Lib.hid (HP.out.below hB2)
  clear hB2
  have k0 := hp_cell (j := 0) HX2.out rfl
  have k1 := hp_cell (j := 1) HX2.out rfl
  have k2 := hp_cell (j := 2) HX2.out rfl
  by_cases hbig : 9000 < n
  · have hbg : decide ((9000 : Int) < (n : Int)) = true := decide_eq_true (by omega)
    go_wp2_with fail
    go_ret
    exact ⟨rfl, HB2.out⟩
  have hbg : decide ((9000 : Int) < (n : Int)) = false := decide_eq_false (by omega)
  cases hm : mayB a b n with
  | false =>
    go_wp2_with fail
    refine (genc_arg a b A n cap c ha hb hn hmax hm _ HP2.out).mono ?_
    rintro e w3 ⟨rfl, hB3⟩
    have HB3 := Lib.hid (HB2.out.trans (hB3.mono HB2.out.size))
    have HX3 := hp_below HX2.out hB3 (lt_heap HX2.out)
    have HM := Lib.hid hm
    clear hB3 k0 k1 k2 hm
    have k0 := hp_cell (j := 0) HX3 rfl
    have k1 := hp_cell (j := 1) HX3 rfl
    have k2 := hp_cell (j := 2) HX3 rfl
    clear HX3
    go_wp2_with fail
    refine (may_ref a b A n cap ha hb hn hmax _).mono ?_
    rintro e w4 ⟨rfl, hB4⟩
    rw [HM.out]
    have HF := Lib.hid (HB3.out.trans (hB4.mono HB3.out.size))
    clear hB4 k0 k1 k2
    go_wp2_with fail
    go_ret
    exact ⟨rfl, HF.out⟩
  | true =>
  have HM := Lib.hid hm
  cases hf : fitsB a b n c 2 with
  | false =>
    go_wp2_with fail
    refine (genc_depth a b A n cap c HC.out ha hb hn hmax hm hf _ HP2.out).mono ?_
    rintro e w3 ⟨rfl, hB3⟩
    have HF2 := Lib.hid hf
    have HB3 := Lib.hid (HB2.out.trans (hB3.mono HB2.out.size))
    have HX3 := Lib.hid (hp_below HX2.out hB3 (lt_heap HX2.out))
    have HP3 := Lib.hid (HP2.out.below hB3)
    clear hB3 k0 k1 k2 hm hf
    have k0 := hp_cell (j := 0) HX3.out rfl
    have k1 := hp_cell (j := 1) HX3.out rfl
    have k2 := hp_cell (j := 2) HX3.out rfl
    go_wp2_with fail
    refine (may_ref a b A n cap ha hb hn hmax _).mono ?_
    rintro e w4 ⟨rfl, hB4⟩
    rw [HM.out]
    have HB4 := Lib.hid (HB3.out.trans (hB4.mono HB3.out.size))
    have hX4 := hp_below HX3.out hB4 (lt_heap HX3.out)
    have HP4 := Lib.hid (HP3.out.below hB4)
    clear hB4 k0 k1 k2
    have k0 := hp_cell (j := 0) hX4 rfl
    have k1 := hp_cell (j := 1) hX4 rfl
    have k2 := hp_cell (j := 2) hX4 rfl
    clear hX4
    go_wp2_with fail
    refine (fits_ref a b A n cap c 2 HC.out ha hb (by unfold In64; omega) hn hmax _ HP4.out).mono ?_
    rintro e w5 ⟨rfl, hB5⟩
    rw [HF2.out]
    have HF := Lib.hid (HB4.out.trans (hB5.mono HB4.out.size))
    clear hB5 k0 k1 k2
    go_wp2_with fail
    go_ret
    exact ⟨rfl, HF.out⟩
  | true =>
  obtain ⟨W, H, rfl, rfl, hn4, hW, hH, hWH, hn0⟩ := pic_two' hf
  have HF2 := Lib.hid hf
  have HN4 := Lib.hid hn4
  clear hm hf hn4
  go_wp2_with fail
  refine (enc_yes W H n HN4.out hn0 A cap c HC.out HF2.out hn hmax _ HP2.out).mono ?_
  rintro e w3 ⟨A3, cap3, m, rfl, hm3, hl3, hN3, hB3⟩
  have HB3 := Lib.hid (HB2.out.trans (hB3.mono HB2.out.size))
  have HX3 := Lib.hid (hp_below HX2.out hB3 (lt_heap HX2.out))
  have HP3 := Lib.hid (HP2.out.below hB3)
  have HN3 := Lib.hid hN3
  have HM3 := Lib.hid hm3
  have HL3 := Lib.hid hl3
  clear hB3 k0 k1 k2 hm3 hl3 hN3
  have k0 := hp_cell (j := 0) HX3.out rfl
  have k1 := hp_cell (j := 1) HX3.out rfl
  have k2 := hp_cell (j := 2) HX3.out rfl
  go_wp2_with fail
  refine (may_ref (W : Nat) (H : Nat) A n cap ha hb hn hmax _).mono ?_
  rintro e w4 ⟨rfl, hB4⟩
  rw [HM.out]
  have HB4 := Lib.hid (HB3.out.trans (hB4.mono HB3.out.size))
  have HX4 := Lib.hid (hp_below HX3.out hB4 (lt_heap HX3.out))
  have HP4 := Lib.hid (HP3.out.below hB4)
  have HN4' := Lib.hid (HN3.out.chgB hB4)
  clear hB4 k0 k1 k2
  have k0 := hp_cell (j := 0) HX4.out rfl
  have k1 := hp_cell (j := 1) HX4.out rfl
  have k2 := hp_cell (j := 2) HX4.out rfl
  go_wp2_with fail
  refine (fits_ref (W : Nat) (H : Nat) A n cap c 2 HC.out ha hb (by unfold In64; omega) hn hmax _ HP4.out).mono ?_
  rintro e w5 ⟨rfl, hB5⟩
  rw [HF2.out]
  have HB5 := Lib.hid (HB4.out.trans (hB5.mono HB4.out.size))
  have HX5 := Lib.hid (hp_below HX4.out hB5 (lt_heap HX4.out))
  have HP5 := Lib.hid (HP4.out.below hB5)
  have HN5 := Lib.hid (HN4'.out.chgB hB5)
  clear hB5 k0 k1 k2
  go_wp2_with fail
  refine (gif_back_n W H n m HN4.out c HC.out HF2.out HM3.out A3 cap3 _ w5 HN5.out).mono ?_
  rintro e w6 ⟨A6, cap6, rfl, hn6, hc6, hO6, hB6⟩
  have hal6 : Below w6.heap.size w6 (w6.alloc (.cells #[.int .i64 (W : Nat), .int .i64 (H : Nat), .slice A6 n cap6] 27)) := (Below.refl _ w6).alloc (Nat.le_refl _) _
  have hb7 := hB6.trans (hal6.mono hB6.size)
  have HB7 := Lib.hid (HB5.out.trans (hb7.mono HB5.out.size))
  have HX7 := Lib.hid (hp_below HX5.out hb7 (lt_heap HX5.out))
  have HP7 := Lib.hid (HP5.out.below hb7)
  have HN7 := Lib.hid (HN5.out.chgB hb7)
  have HQ7 := Lib.hid (hO6.below hal6).pix
  have HY7 := Lib.hid (hp_new0 w6 (.cells #[.int .i64 (W : Nat), .int .i64 (H : Nat), .slice A6 n cap6] 27))
  clear hB6 hal6 hb7 hO6
  go_wp2_with fail
  generalize w6.alloc (.cells #[.int .i64 (W : Nat), .int .i64 (H : Nat), .slice A6 n cap6] 27) = w7 at *
  obtain ⟨y7, hy7⟩ : ∃ y7, y7 = w6.heap.size := ⟨_, rfl⟩
  rw [← hy7] at HY7 ⊢
  clear hy7
  refine (gifd_back W H n m HN4.out c HC.out HF2.out HM3.out A3 cap3 _ w7 HN7.out).mono ?_
  rintro e w8 ⟨A8, cap8, rfl, hn8, hc8, hO8, hB8⟩
  have hal8 : Below w8.heap.size w8 (w8.alloc (.cells #[.int .i64 (W : Nat), .int .i64 (H : Nat), .slice A8 n cap8] 27)) := (Below.refl _ w8).alloc (Nat.le_refl _) _
  have hb9 := hB8.trans (hal8.mono hB8.size)
  have HB9 := Lib.hid (HB7.out.trans (hb9.mono HB7.out.size))
  have HX9 := Lib.hid (hp_below HX7.out hb9 (lt_heap HX7.out))
  have HP9 := Lib.hid (HP7.out.below hb9)
  have HN9 := Lib.hid (HN7.out.chgB hb9)
  have HQ9 := Lib.hid (HQ7.out.below hb9)
  have HY9 := Lib.hid (hp_below HY7.out hb9 (lt_heap HY7.out))
  have HV9 := Lib.hid (hO8.below hal8).pix
  have HZ9 := Lib.hid (hp_new0 w8 (.cells #[.int .i64 (W : Nat), .int .i64 (H : Nat), .slice A8 n cap8] 27))
  have k0 := hp_cell (j := 0) HX9.out rfl
  have k1 := hp_cell (j := 1) HX9.out rfl
  have k2 := hp_cell (j := 2) HX9.out rfl
  clear hB8 hal8 hb9 hO8
  go_wp2_with fail
  generalize w8.alloc (.cells #[.int .i64 (W : Nat), .int .i64 (H : Nat), .slice A8 n cap8] 27) = w9 at *
  obtain ⟨y9, hy9⟩ : ∃ y9, y9 = w8.heap.size := ⟨_, rfl⟩
  rw [← hy9] at HZ9 ⊢
  clear hy9
  refine (copy_ref (W : Nat) (H : Nat) A n cap c hn hmax hz (by omega) _ HP9.out).mono ?_
  rintro e w10 ⟨⟨A10, cap10, rfl, hn10, hc10, _, hO10⟩, hB10⟩
  have HB10 := Lib.hid (HB9.out.trans (hB10.mono HB9.out.size))
  have HX10 := Lib.hid (hp_below HX9.out hB10 (lt_heap HX9.out))
  have HP10 := Lib.hid (HP9.out.below hB10)
  have HN10 := Lib.hid (HN9.out.chgB hB10)
  have HQ10 := Lib.hid (HQ9.out.below hB10)
  have HY10 := Lib.hid (hp_below HY9.out hB10 (lt_heap HY9.out))
  have HV10 := Lib.hid (HV9.out.below hB10)
  have HZ10 := Lib.hid (hp_below HZ9.out hB10 (lt_heap HZ9.out))
  have HO10 := Lib.hid hO10.pix
  clear hB10 k0 k1 k2 hO10
  go_wp2_with fail
  refine (enc_yes W H n HN4.out hn0 A10 cap10 c HC.out HF2.out hn10 hc10 _ HO10.out).mono ?_
  rintro e w11 ⟨A11, cap11, m', rfl, hm11, _, hN11, hB11⟩
  have HMM := Lib.hid (hm11.trans HM3.out.symm)
  have HB11 := Lib.hid (HB10.out.trans (hB11.mono HB10.out.size))
  have HX11 := Lib.hid (hp_below HX10.out hB11 (lt_heap HX10.out))
  have HP11 := Lib.hid (HP10.out.below hB11)
  have HN11 := Lib.hid (HN10.out.chgB hB11)
  have HQ11 := Lib.hid (HQ10.out.below hB11)
  have HY11 := Lib.hid (hp_below HY10.out hB11 (lt_heap HY10.out))
  have HV11 := Lib.hid (HV10.out.below hB11)
  have HZ11 := Lib.hid (hp_below HZ10.out hB11 (lt_heap HZ10.out))
  rw [HMM.out] at hN11 ⊢
  have HK11 := Lib.hid hN11
  have k0 := hp_cell (j := 0) HX11.out rfl
  have k1 := hp_cell (j := 1) HX11.out rfl
  have k2 := hp_cell (j := 2) HX11.out rfl
  have y0 := hp_cell (j := 0) HY11.out rfl
  have y1 := hp_cell (j := 1) HY11.out rfl
  have y2 := hp_cell (j := 2) HY11.out rfl
  clear hB11 hm11 hN11
  go_wp2_with fail
  refine (same_ref (W : Nat) (H : Nat) A6 n cap6 c (W : Nat) (H : Nat) A n cap c (by unfold In64; omega) (by unfold In64; omega) ha hb hn6 hc6 hn hmax _ HQ11.out HP11.out).mono ?_
  rintro e w12 ⟨rfl, hB12⟩
  rw [same_self c HM.out]
  have HB12 := Lib.hid (HB11.out.trans (hB12.mono HB11.out.size))
  have HX12 := Lib.hid (hp_below HX11.out hB12 (lt_heap HX11.out))
  have HP12 := Lib.hid (HP11.out.below hB12)
  have HV12 := Lib.hid (HV11.out.below hB12)
  have HZ12 := Lib.hid (hp_below HZ11.out hB12 (lt_heap HZ11.out))
  have HN12 := Lib.hid (HN11.out.chgB hB12)
  have HK12 := Lib.hid (HK11.out.chgB hB12)
  clear hB12 k0 k1 k2 y0 y1 y2
  have k0 := hp_cell (j := 0) HX12.out rfl
  have k1 := hp_cell (j := 1) HX12.out rfl
  have k2 := hp_cell (j := 2) HX12.out rfl
  have z0 := hp_cell (j := 0) HZ12.out rfl
  have z1 := hp_cell (j := 1) HZ12.out rfl
  have z2 := hp_cell (j := 2) HZ12.out rfl
  go_wp2_with fail
  refine (same_ref (W : Nat) (H : Nat) A8 n cap8 c (W : Nat) (H : Nat) A n cap c (by unfold In64; omega) (by unfold In64; omega) ha hb hn8 hc8 hn hmax _ HV12.out HP12.out).mono ?_
  rintro e w13 ⟨rfl, hB13⟩
  rw [same_self c HM.out]
  have HB13 := Lib.hid (HB12.out.trans (hB13.mono HB12.out.size))
  have hX13 := hp_below HX12.out hB13 (lt_heap HX12.out)
  have e1 := run_str (cap := cap3) (HN12.out.chgB hB13).byt
  have e2 := run_str (cap := cap11) (HK12.out.chgB hB13).byt
  obtain ⟨TT, hTT⟩ : ∃ TT, TT = strB m (gz (gifF c W H)) := ⟨_, rfl⟩
  rw [← hTT] at e1 e2
  clear hB13 k0 k1 k2 z0 z1 z2 hTT
  have k0 := hp_cell (j := 0) hX13 rfl
  have k1 := hp_cell (j := 1) hX13 rfl
  have k2 := hp_cell (j := 2) hX13 rfl
  clear hX13
  obtain ⟨T, hT⟩ : ∃ T, T = 9 * W * H := ⟨_, rfl⟩
  have hTI : (9 : Int) * (W : Int) * (H : Int) = (T : Int) := by rw [hT]; simp
  have hmT : m ≤ T + 2048 := by rw [hT]; exact HL3.out
  have hTb : T ≤ 9 * 16384 := by rw [hT, Nat.mul_assoc]; omega
  have t3 : decide ((m : Int) ≤ (T : Int) + 2048) = true := by simp; omega
  clear hT
  go_wp2_with fail
  go_ret
  exact ⟨rfl, HB13.out⟩
end Go.Proofs.Ytlgoohhfpmomhaa
