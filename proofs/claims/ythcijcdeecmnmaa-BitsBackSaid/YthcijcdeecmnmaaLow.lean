/- BitsLow: the walk. -/
import Derived.Test.YthcijcdeecmnmaaLowB
namespace Go.Proofs.Ythcijcdeecmnmaa
set_option linter.unusedVariables false
open Go.ChangeShapes Go.WideShapes Go.ChangeAt Go.RowKit

/-- Deeds lie in w: what is done (d), of how much (f). -/
def Deeds (w : World) (A : Option Addr) (m : Nat) (d f : Nat → Int) : Prop :=
  0 < m → ∃ bk off, A = some ⟨bk, off, none⟩ ∧ bk < w.heap.size ∧ ∀ j, j < m → w.cell? ⟨bk, off + j * 2, none⟩ = some (.int .i64 (d j)) ∧ w.cell? ⟨bk, off + j * 2 + 1, none⟩ = some (.int .i64 (f j))
theorem Deeds.low {w w' : World} {A : Option Addr} {n : Nat} {d c : Nat → Int} (h : Deeds w A n d c) (hb : Below w.heap.size w w') : Deeds w' A n d c := fun hn => by
  obtain ⟨bk, off, rfl, hlt, hc⟩ := h hn
  exact ⟨bk, off, rfl, Nat.lt_of_lt_of_le hlt hb.size, fun j hj => ⟨(hb.cell (p := ⟨bk, off + j * 2, none⟩) hlt).trans (hc j hj).1, (hb.cell (p := ⟨bk, off + j * 2 + 1, none⟩) hlt).trans (hc j hj).2⟩⟩
theorem elem_u8 : Try.prog.elem 22 = 5 := by kernel_rfl
theorem size_u8 (W : World) : (sizeOf 5).run Try.prog W = .ok 1 W := by kernel_rfl
theorem und_u8 : Try.prog.underlying 22 = some (.slice (Try.prog.elem 22)) := by rw [elem_u8]; exact Try.underlying22
theorem run_sla (A : Option Addr) (n cap q k : Nat) (hk : q + k ≤ cap) (W : World) :
    (Instr.sliceAt 22 (.slice A n cap) (some (.int .i64 (q : Nat))) (some (.int .i64 ((q : Int) + (k : Int)))) none).run Try.prog W = .ok (.slice (if cap = q then A else A.map (·.add q)) k (cap - q)) W := by
  rw [run_sliceAt_slice _ _ _ _ _ _ und_u8, run_slice_lh W 22 A n cap und_u8 .i64 .i64 (q : Nat) ((q : Int) + (k : Int)) (by omega) (by omega) (by omega), elem_u8, size_u8]
  simp only [Result.andThen, sliced, Nat.mul_one]
  congr 2
  omega
/-- The state at the loop's head. -/
structure HL (w : World) (A0 : Option Addr) (n cap : Nat) (b : Nat → Nat) (base bx gm g : Nat) (A : Option Addr) (c : Nat) (p : Nat) (sh : Bool) (W : World) : Prop where
  xb : W.heap[bx]? = some (.cells #[.pointer (some ⟨g, 0, none⟩)] 37 (0, 0))
  rd : Rd 46 g A n c b p (.slice none 0 0) 0 W
  rf : Rf gm A0 n cap b p false sh W
  le : p ≤ 8 * n
  below : Below w.heap.size w W
  sz : base ≤ W.heap.size
theorem HL.step {w : World} {A0 : Option Addr} {n cap : Nat} {b : Nat → Nat} {base bx gm g : Nat} {A : Option Addr} {c p : Nat} {sh : Bool} {W W' : World} (h : HL w A0 n cap b base bx gm g A c p sh W) {S : List Nat} {p' : Nat} {sh' : Bool}
    (hc : Chg S W W') (hS : ∀ k ∈ S, k ≠ bx ∧ w.heap.size ≤ k) (hrd : Rd 46 g A n c b p' (.slice none 0 0) 0 W') (hrf : Rf gm A0 n cap b p' false sh' W') (hle : p' ≤ 8 * n) : HL w A0 n cap b base bx gm g A c p' sh' W' :=
  ⟨hp_chg h.xb hc (fun hm => (hS _ hm).1 rfl), hrd, hrf, hle, h.below.trans (hc.below h.below.size (fun k hk => (hS k hk).2)), Nat.le_trans h.sz hc.size⟩
theorem Rf.far {w W W' : World} {gm : Nat} {A0 : Option Addr} {n cap : Nat} {b : Nat → Nat} {p : Nat} {sh : Bool} (h : Rf gm A0 n cap b p false sh W) {S : List Nat} (hc : Chg S W W') (hg : gm ∉ S) (hB : w.heap.size ≤ W.heap.size) (hS : ∀ k ∈ S, w.heap.size ≤ k) (hA0 : 0 < n → ∀ a, A0 = some a → a.block < w.heap.size) : Rf gm A0 n cap b p false sh W' :=
  h.chg hc hg (fun hn a ha hm => by have h1 := hA0 hn a ha; have h2 := hS _ hm; omega)
theorem Rd.far {T : TypeId} {g : Nat} {A : Option Addr} {n cap : Nat} {b : Nat → Nat} {p : Nat} {vo : Value} {fr : Int} {W W' : World} (h : Rd T g A n cap b p vo fr W) {S : List Nat} (hc : Chg S W W') (hg : g ∉ S) (hA : ∀ a, A = some a → a.block ∉ S) : Rd T g A n cap b p vo fr W' :=
  h.chg hc hg (fun _ a ha => hA a ha)

set_option maxRecDepth 100000 in
set_option maxHeartbeats 1000000 in
theorem bits_low (A0 : Option Addr) (n cap : Nat) (b : Nat → Nat) (hb : ∀ i, b i < 256) (h1 : n ≤ cap) (h2 : cap ≤ maxLen) (h3 : A0 = none → cap = 0) (AL : Option Addr) (m capL : Nat) (d f : Nat → Int) (hd : ∀ i, In64 (d i)) (hf : ∀ i, In64 (f i)) (h4 : m ≤ capL) (h5 : capL ≤ maxLen) (w : World)
    (hP : Byt w A0 n b) (hL : Deeds w AL m d f) :
    Calls Try.prog 4 #[.slice A0 n cap, .slice AL m capL] w fun e w' => e = .returned (.bool true) ∧ Below w.heap.size w w' := by
  have hmf : ∀ (fn : Fn) (first cap : Array Value) (w : World), (Instr.makeFunc fn first cap).run Try.prog w = .ok (.func fn first cap) w := fun _ _ _ _ => rfl
  go_enter Try.func4, Try.ntmps4
  go_wp2_with fail
  refine (awake1 _).mono ?_
  rintro e w1 ⟨rfl, hB1⟩
  have HB := Lib.hid hB1
  have hlt := hB1.size
  clear hB1
  unfold maxLen at h2 h5
  by_cases c1 : 2000 < n
  · have t1 : decide ((2000 : Int) < (n : Int)) = true := by simp; omega
    go_wp2
    go_ret
    exact ⟨rfl, HB.out⟩
  have t1 : decide ((2000 : Int) < (n : Int)) = false := by simp; omega
  by_cases c2 : 200 < m
  · have t2 : decide ((200 : Int) < (m : Int)) = true := by simp; omega
    go_wp2
    go_ret
    exact ⟨rfl, HB.out⟩
  have t2 : decide ((200 : Int) < (m : Int)) = false := by simp; omega
  go_wp2_with fail
  refine (newL2 A0 n cap b h1 (by unfold maxLen; omega) h3 (by omega) _ (hP.below HB.out)).mono ?_
  rintro e w2 ⟨g, A, c, rfl, hg, hR, hA, ⟨hc1, hc2, hfo, hnil⟩, hB2⟩
  have HB2 := Lib.hid (HB.out.trans (hB2.mono HB.out.size))
  have hs2 := hB2.size
  clear HB hB2
  go_wp2_with fail
  have hA0 : 0 < n → ∀ a, A0 = some a → a.block < w.heap.size := fun hn0 a ha => by
    obtain ⟨bk, off, rfl, hl, _⟩ := hP hn0
    cases ha
    exact hl
  have hww := HB2.out.size
  have hHS : HL w A0 n cap b (w2.heap.size + 1 + 1) (w2.heap.size + 1) w2.heap.size g A c 0 false ((w2.alloc (.cells #[.slice A0 n cap, .int .i64 0, .bool false, .bool false] 29)).alloc (.cells #[.pointer (some ⟨g, 0, none⟩)] 37)) := by
    have hC : Chg [] w2 ((w2.alloc (.cells #[.slice A0 n cap, .int .i64 0, .bool false, .bool false] 29)).alloc (.cells #[.pointer (some ⟨g, 0, none⟩)] 37)) := ((Chg.refl _ _).alloc _).alloc _
    have hBw := HB2.out.trans (hC.below (B := w.heap.size) (by omega) (by simp))
    exact ⟨hp_newk (by simp), hR.chg hC (by simp) (fun _ _ _ => by simp), ⟨hp_alloc _ (hp_new0 _ _), hP.below hBw, fun hn0 a ha => by have := hA0 hn0 a ha; simp; omega⟩, by omega, hBw, by simp⟩
  have hgl := lt_heap hR.box
  have HP := Lib.hid hP
  have HL' := Lib.hid hL
  have HFO := Lib.hid hfo
  have hA2 : ∀ a, A = some a → w1.heap.size ≤ a.block ∧ a.block < w2.heap.size ∧ a.block ≠ g ∨ n = 0 := fun a ha => by
    by_cases h0 : n = 0
    · exact .inr h0
    · have h9 := hR.off (by omega) a ha
      simp at h9
      have h8 := hA a ha
      exact .inl ⟨h8.1, h8.2, h9⟩
  clear hR HB2 hP hL hfo
  go_loopw [7] (fun x wr => ∃ (j p : Nat) (sh : Bool), x = .int .i64 j ∧ j ≤ m ∧ HL w A0 n cap b (w2.heap.size + 1 + 1) (w2.heap.size + 1) w2.heap.size g A c p sh wr) (fun x _ => m - (intOf x).toNat)
  case atStart => exact ⟨0, 0, false, rfl, by omega, hHS⟩
  case round =>
    obtain ⟨j, p, sh, rfl, hj, hS⟩ := hrel
    clear hHS
    have hle := hS.le
    have hsz := hS.sz
    have hsw := hS.below.size
    by_cases hlt2 : j < m
    · obtain ⟨lb, lo, rfl, hlb, hlc⟩ := (HL'.out.low hS.below) (by omega)
      obtain ⟨he0, he1⟩ := hlc j hlt2
      have hf64 := hf j
      obtain ⟨kk, hkk⟩ : ∃ kk, kk = f j := ⟨_, rfl⟩
      obtain ⟨dd, hdd⟩ : ∃ dd, dd = d j := ⟨_, rfl⟩
      rw [← hkk] at he1 hf64
      rw [← hdd] at he0
      clear hkk hdd hlc
      have kx := hp_cell (j := 0) hS.xb rfl
      have hnA : ∀ a, A = some a → a.block ≠ wr.heap.size ∧ a.block ≠ wr.heap.size + 1 ∧ a.block ≠ wr.heap.size + 1 + 1 ∧ a.block < wr.heap.size := fun a ha => by have := hA a ha; omega
      have hCa : Chg [] wr ((wr.alloc (.cells #[.int .i64 kk] 3)).alloc (.cells #[.int .i64 0] 3)) := ((Chg.refl _ _).alloc _).alloc _
      have hnb : ((wr.alloc (.cells #[.int .i64 kk] 3)).alloc (.cells #[.int .i64 0] 3)).heap[wr.heap.size]? = some (.cells #[.int .i64 kk] 3 (0, 0)) := hp_alloc _ (hp_new0 _ _)
      have hgb : ((wr.alloc (.cells #[.int .i64 kk] 3)).alloc (.cells #[.int .i64 0] 3)).heap[wr.heap.size + 1]? = some (.cells #[.int .i64 0] 3 (0, 0)) := hp_newk (by simp)
      have hSa : HL w A0 n cap b (w2.heap.size + 1 + 1) (w2.heap.size + 1) w2.heap.size g A c p sh ((wr.alloc (.cells #[.int .i64 kk] 3)).alloc (.cells #[.int .i64 0] 3)) := hS.step hCa (by simp) (hS.rd.chg hCa (by simp) (fun _ _ _ => by simp)) (hS.rf.chg hCa (by simp) (fun _ _ _ => by simp)) hle
      have hza : ((wr.alloc (.cells #[.int .i64 kk] 3)).alloc (.cells #[.int .i64 0] 3)).heap.size = wr.heap.size + 1 + 1 := by simp
      have HSA := Lib.hid hSa
      have HNB := Lib.hid hnb
      have HGB := Lib.hid hgb
      clear hS hSa hCa hnb hgb
      by_cases e2 : dd = 2
      · subst e2
        have kx1 := hp_cell (j := 0) HSA.out.xb rfl
        go_wp2_with fail
        refine (alignL g A n c b p (by omega) _ 0 hle _ HSA.out.rd).mono ?_
        rintro e w4 ⟨rfl, hC4, hR4⟩
        have hx4 := hp_chg HSA.out.xb hC4 (by simp; omega)
        have hf4 := HSA.out.rf.far (w := w) hC4 (by simp; omega) (by omega) (by simp; omega) hA0
        have HR4 := Lib.hid hR4
        have HC4 := Lib.hid hC4
        have HF4 := Lib.hid hf4
        clear hC4 hR4 hf4 kx kx1
        go_wp2_with fail
        refine (align_ref w2.heap.size A0 n cap b p (by omega) false sh hle _ HF4.out).mono ?_
        rintro e w5 ⟨rfl, hC5, hf5⟩
        have hx5 := hp_chg hx4 hC5 (by simp)
        have hR5 := HR4.out.far hC5 (by simp; omega) (fun a ha => by have := hA a ha; simp; omega)
        have HS5 := Lib.hid (HSA.out.step (S := [g, w2.heap.size]) ((HC4.out.mono (by simp)).trans (hC5.mono (by simp))) (by simp; omega) hR5 hf5 (up8_le hle))
        have kx5 := hp_cell (j := 0) hx5 rfl
        clear hC5 hf5 hR5 hx5 hx4
        go_wp2_with fail
        refine (leftL g A n c b (up8 p) _ 0 (by omega) HS5.out.le _ HS5.out.rd).mono ?_
        rintro e w7 ⟨rfl, d1, rfl⟩
        go_wp2_with fail
        refine (left_ref w2.heap.size A0 n cap b (up8 p) false sh (by omega) HS5.out.le _ (HS5.out.rf.chg ((Chg.refl [] _).drewN d1) (by simp) (fun _ _ _ => by simp))).mono ?_
        rintro e w8 ⟨rfl, d2, rfl⟩
        have hC8 : Chg [] (w5) ((w5).drewN (d1 + d2)) := (Chg.refl [] _).drewN _
        have HF := Lib.hid (HS5.out.step hC8 (by simp) (HS5.out.rd.chg hC8 (by simp) (fun _ _ _ => by simp)) (HS5.out.rf.chg hC8 (by simp) (fun _ _ _ => by simp)) HS5.out.le)
        clear hC8
        go_wp2_with fail
        go_roundw
        case rel => exact ⟨j + 1, up8 p, sh, by go_num, hlt2, HF.out⟩
        case measure => simp [intOf]; omega
      by_cases e0 : dd = 0 ∨ dd = 1
      · clear e2
        rcases e0 with rfl | rfl
        all_goals
          cases hk : askB kk (8 * n - p) with
          | true =>
            have hk0 : 0 ≤ kk ∧ kk ≤ 24 ∧ kk ≤ ((8 * n - p : Nat) : Int) := by simpa [askB] using hk
            obtain ⟨k, rfl⟩ := Int.eq_ofNat_of_zero_le hk0.1
            have HK := Lib.hid hk
            clear hk
            go_wp2_with fail
            refine (guard_yes _ _ (ent_low1 _) _ (fun w' => Chg [g, wr.heap.size + 1] ((wr.alloc (.cells #[.int .i64 (k : Nat)] 3)).alloc (.cells #[.int .i64 0] 3)) w' ∧ Rd 46 g A n c b (p + k) (.slice none 0 0) 0 w' ∧ w'.heap[wr.heap.size + 1]? = some (.cells #[.int .i64 (takeL b p k : Nat)] 3 (0, 0))) ?_).mono ?_
            · refine (low_yes (w2.heap.size + 1) wr.heap.size (wr.heap.size + 1) g A n c b hb p (by omega) hle k HK.out _ (hp_alloc _ HSA.out.xb) (hp_alloc _ HNB.out) (hp_alloc _ HGB.out) (HSA.out.rd.alloc _) (by omega) (fun a ha => (hnA a ha).2.1)).mono ?_
              rintro e w' ⟨rfl, hC, r, k0⟩
              exact ⟨rfl, hp_chg (hp_new0 _ _) hC (by rw [hza]; simp; omega), ((Chg.refl _ _).alloc _).trans hC, r, k0⟩
            rintro e w' ⟨rfl, w3, ⟨hC, r, k0⟩, hb3, rfl⟩
            rw [hza]
            have h2s := hp_oth (g := wr.heap.size + 1 + 1) (i := 0) (v := .bool true) k0 (by omega)
            have hCs := hC.set (g := wr.heap.size + 1 + 1) (.inr (by rw [hza]; exact Nat.le_refl _)) 0 (.bool true)
            have rs := r.set (x := wr.heap.size + 1 + 1) (by simp; omega) (fun _ a ha => (hnA a ha).2.2.1) 0 (.bool true)
            clear hC k0 r hb3
            generalize w3.setCell ⟨wr.heap.size + 1 + 1, 0, none⟩ (.bool true) = w4 at *
            have hx4 := hp_chg HSA.out.xb hCs (by simp; omega)
            have hn4 := hp_chg HNB.out hCs (by simp; omega)
            have hf4 := HSA.out.rf.far (w := w) hCs (by simp; omega) (by rw [hza]; omega) (by simp; omega) hA0
            have HCS := Lib.hid hCs
            have HRS := Lib.hid rs
            have HF4 := Lib.hid hf4
            have hs4 := hCs.size
            rw [hza] at hs4
            clear hCs rs hf4 kx
            have kx := hp_cell (j := 0) hx4 rfl
            have kn := hp_cell (j := 0) hn4 rfl
            have kg := hp_cell (j := 0) h2s rfl
            go_wp2_with fail
            refine (take_refL w2.heap.size A0 n cap b p sh (by omega) hle hb k HK.out _ HF4.out).mono ?_
            rintro e w5 ⟨rfl, hC5, hf5⟩
            have hx5 := hp_chg hx4 hC5 (by simp)
            have hg5 := hp_chg h2s hC5 (by simp; omega)
            have hR5 := HRS.out.far hC5 (by simp; omega) (fun a ha => by have := hA a ha; simp; omega)
            have HS5 := Lib.hid (HSA.out.step (S := [g, wr.heap.size + 1, w2.heap.size]) ((HCS.out.mono (by simp)).trans (hC5.mono (by simp))) (by simp; omega) hR5 hf5 (by omega))
            clear kx kn kg hx4 hn4 h2s HRS HF4
            have kx := hp_cell (j := 0) hx5 rfl
            have kg := hp_cell (j := 0) hg5 rfl
            clear hC5 hf5 hR5
            rw [show takeB false b p k = takeL b p k from rfl]
            go_wp2_with fail
            refine (leftL g A n c b (p + k) _ 0 (by omega) HS5.out.le _ HS5.out.rd).mono ?_
            rintro e w7 ⟨rfl, d1, rfl⟩
            go_wp2_with fail
            refine (left_ref w2.heap.size A0 n cap b (p + k) false sh (by omega) HS5.out.le _ (HS5.out.rf.chg ((Chg.refl [] _).drewN d1) (by simp) (fun _ _ _ => by simp))).mono ?_
            rintro e w8 ⟨rfl, d2, rfl⟩
            have hC8 : Chg [] (w5) ((w5).drewN (d1 + d2)) := (Chg.refl [] _).drewN _
            have HF := Lib.hid (HS5.out.step hC8 (by simp) (HS5.out.rd.chg hC8 (by simp) (fun _ _ _ => by simp)) (HS5.out.rf.chg hC8 (by simp) (fun _ _ _ => by simp)) HS5.out.le)
            clear hC8
            go_wp2_with fail
            go_roundw
            case rel => exact ⟨j + 1, p + k, sh, by go_num, hlt2, HF.out⟩
            case measure => simp [intOf]; omega
          | false =>
            have HK := Lib.hid hk
            clear hk
            go_wp2_with fail
            refine (guard_no _ _ (ent_low1 _) _ (fun w' => Chg [g, wr.heap.size + 1] ((wr.alloc (.cells #[.int .i64 kk] 3)).alloc (.cells #[.int .i64 0] 3)) w' ∧ Rd 46 g A n c b (p) (.slice none 0 0) 0 w' ∧ w'.heap[wr.heap.size + 1]? = some (.cells #[.int .i64 0] 3 (0, 0))) ?_).mono ?_
            · refine (low_no (w2.heap.size + 1) wr.heap.size (wr.heap.size + 1) g A n c b p (by omega) hle kk HK.out _ (hp_alloc _ HSA.out.xb) (hp_alloc _ HNB.out) (HSA.out.rd.alloc _)).mono ?_
              rintro e w' ⟨⟨u, pv, rfl⟩, d0, rfl⟩
              have hC0 : Chg [g, wr.heap.size + 1] ((wr.alloc (.cells #[.int .i64 kk] 3)).alloc (.cells #[.int .i64 0] 3)) ((((wr.alloc (.cells #[.int .i64 kk] 3)).alloc (.cells #[.int .i64 0] 3)).alloc (.cells #[.bool false] 4)).drewN d0) := ((Chg.refl _ _).alloc _).drewN d0
              exact ⟨⟨u, pv, rfl⟩, hp_new0 ((wr.alloc (.cells #[.int .i64 kk] 3)).alloc (.cells #[.int .i64 0] 3)) _, hC0, ((HSA.out.rd.alloc _).chg ((Chg.refl [] _).drewN d0) (by simp) (fun _ _ _ => by simp)), hp_alloc (W := (wr.alloc (.cells #[.int .i64 kk] 3)).alloc (.cells #[.int .i64 0] 3)) _ HGB.out⟩
            rintro e w' ⟨rfl, w3, ⟨hC, r, k0⟩, hb3, rfl⟩
            rw [hza]
            have h2s := hp_oth (g := wr.heap.size + 1 + 1) (i := 0) (v := .bool false) k0 (by omega)
            have hCs := hC.set (g := wr.heap.size + 1 + 1) (.inr (by rw [hza]; exact Nat.le_refl _)) 0 (.bool false)
            have rs := r.set (x := wr.heap.size + 1 + 1) (by simp; omega) (fun _ a ha => (hnA a ha).2.2.1) 0 (.bool false)
            clear hC k0 r hb3
            generalize w3.setCell ⟨wr.heap.size + 1 + 1, 0, none⟩ (.bool false) = w4 at *
            have hx4 := hp_chg HSA.out.xb hCs (by simp; omega)
            have hn4 := hp_chg HNB.out hCs (by simp; omega)
            have hf4 := HSA.out.rf.far (w := w) hCs (by simp; omega) (by rw [hza]; omega) (by simp; omega) hA0
            have HCS := Lib.hid hCs
            have HRS := Lib.hid rs
            have HF4 := Lib.hid hf4
            have hs4 := hCs.size
            rw [hza] at hs4
            clear hCs rs hf4 kx
            have kx := hp_cell (j := 0) hx4 rfl
            have kn := hp_cell (j := 0) hn4 rfl
            have kg := hp_cell (j := 0) h2s rfl
            go_wp2_with fail
            refine (take_ref_no w2.heap.size A0 n cap b p false sh (by omega) hle kk HK.out _ HF4.out).mono ?_
            rintro e w5 ⟨rfl, hC5, hf5⟩
            have hx5 := hp_chg hx4 hC5 (by simp)
            have hg5 := hp_chg h2s hC5 (by simp; omega)
            have hR5 := HRS.out.far hC5 (by simp; omega) (fun a ha => by have := hA a ha; simp; omega)
            have HS5 := Lib.hid (HSA.out.step (S := [g, wr.heap.size + 1, w2.heap.size]) ((HCS.out.mono (by simp)).trans (hC5.mono (by simp))) (by simp; omega) hR5 hf5 (by omega))
            clear kx kn kg hx4 hn4 h2s HRS HF4
            have kx := hp_cell (j := 0) hx5 rfl
            have kg := hp_cell (j := 0) hg5 rfl
            clear hC5 hf5 hR5
            go_wp2_with fail
            refine (leftL g A n c b (p) _ 0 (by omega) HS5.out.le _ HS5.out.rd).mono ?_
            rintro e w7 ⟨rfl, d1, rfl⟩
            go_wp2_with fail
            refine (left_ref w2.heap.size A0 n cap b (p) false true (by omega) HS5.out.le _ (HS5.out.rf.chg ((Chg.refl [] _).drewN d1) (by simp) (fun _ _ _ => by simp))).mono ?_
            rintro e w8 ⟨rfl, d2, rfl⟩
            have hC8 : Chg [] (w5) ((w5).drewN (d1 + d2)) := (Chg.refl [] _).drewN _
            have HF := Lib.hid (HS5.out.step hC8 (by simp) (HS5.out.rd.chg hC8 (by simp) (fun _ _ _ => by simp)) (HS5.out.rf.chg hC8 (by simp) (fun _ _ _ => by simp)) HS5.out.le)
            clear hC8
            go_wp2_with fail
            go_roundw
            case rel => exact ⟨j + 1, p, true, by go_num, hlt2, HF.out⟩
            case measure => simp [intOf]; omega
      by_cases e3 : dd = 3
      · subst e3
        have hCb : Chg [] ((wr.alloc (.cells #[.int .i64 kk] 3)).alloc (.cells #[.int .i64 0] 3)) (((wr.alloc (.cells #[.int .i64 kk] 3)).alloc (.cells #[.int .i64 0] 3)).alloc (.cells #[.slice none 0 0] 22)) := (Chg.refl _ _).alloc _
        have hSb := HSA.out.step hCb (by simp) (HSA.out.rd.chg hCb (by simp) (fun _ _ _ => by simp)) (HSA.out.rf.chg hCb (by simp) (fun _ _ _ => by simp)) hle
        have hzb : (((wr.alloc (.cells #[.int .i64 kk] 3)).alloc (.cells #[.int .i64 0] 3)).alloc (.cells #[.slice none 0 0] 22)).heap.size = wr.heap.size + 1 + 1 + 1 := by rw [World.size_alloc, hza]
        have HSB := Lib.hid hSb
        have HNB2 := Lib.hid (hp_alloc (.cells #[.slice none 0 0] 22) HNB.out)
        have HDB := Lib.hid (hp_newk (o := .cells #[.slice none 0 0] 22) hza)
        clear hCb hSb
        by_cases hk : 0 ≤ kk ∧ kk ≤ ((n - (p + 7) / 8 : Nat) : Int)
        · obtain ⟨k, rfl⟩ := Int.eq_ofNat_of_zero_le hk.1
          have hkn : (p + 7) / 8 + k ≤ n := by omega
          clear hk
          go_wp2_with fail
          refine (guard_yes _ _ (ent_low2 _) _ (fun w' => Chg [g, wr.heap.size + 1 + 1] (((wr.alloc (.cells #[.int .i64 (k : Nat)] 3)).alloc (.cells #[.int .i64 0] 3)).alloc (.cells #[.slice none 0 0] 22)) w' ∧ Rd 46 g A n c b (8 * ((p + 7) / 8 + k)) (.slice none 0 0) 0 w' ∧ ∃ A' cap', w'.heap[wr.heap.size + 1 + 1]? = some (.cells #[.slice A' k cap'] 22 (0, 0)) ∧ Byt w' A' k (fun i => b ((p + 7) / 8 + i)) ∧ (0 < k → ∀ a, A' = some a → wr.heap.size + 1 + 1 + 1 + 1 ≤ a.block)) ?_).mono ?_
          · refine (byt_any (w2.heap.size + 1) wr.heap.size (wr.heap.size + 1 + 1) g A n c b p (by omega) hle hc1 hc2 (fun h => by have := hnil h; omega) HFO.out k hkn _ (hp_alloc _ HSB.out.xb) (hp_alloc _ HNB2.out) (hp_alloc _ HDB.out) (HSB.out.rd.alloc _) (by omega) (fun a ha => (hnA a ha).2.2.1)).mono ?_
            rintro e w' ⟨rfl, hC, r, A', cap', k0, hby, hfar⟩
            exact ⟨rfl, hp_chg (hp_new0 _ _) hC (by rw [hzb]; simp; omega), ((Chg.refl _ _).alloc _).trans hC, r, A', cap', k0, hby, fun h0 a ha => by have := hfar h0 a ha; rw [World.size_alloc, hzb] at this; exact this⟩
          rintro e w' ⟨rfl, w3, ⟨hC, r, A', cap', k0, hby, hfar⟩, hb3, rfl⟩
          rw [hzb]
          have h2s := hp_oth (g := wr.heap.size + 1 + 1 + 1) (i := 0) (v := .bool true) k0 (by omega)
          have hCs := hC.set (g := wr.heap.size + 1 + 1 + 1) (.inr (by rw [hzb]; exact Nat.le_refl _)) 0 (.bool true)
          have rs := r.set (x := wr.heap.size + 1 + 1 + 1) (by simp; omega) (fun _ a ha => by have := hnA a ha; omega) 0 (.bool true)
          have hbs := hby.chg ((Chg.refl [wr.heap.size + 1 + 1 + 1] w3).set (g := wr.heap.size + 1 + 1 + 1) (.inl (by simp)) 0 (.bool true)) (fun h0 a ha hm => by have := hfar h0 a ha; simp at hm; omega)
          clear hC k0 r hb3 hby hfar
          generalize w3.setCell ⟨wr.heap.size + 1 + 1 + 1, 0, none⟩ (.bool true) = w4 at *
          have hx4 := hp_chg HSB.out.xb hCs (by simp; omega)
          have hn4 := hp_chg HNB2.out hCs (by simp; omega)
          have hf4 := HSB.out.rf.far (w := w) hCs (by simp; omega) (by rw [hzb]; omega) (by simp; omega) hA0
          have hs4 := hCs.size
          rw [hzb] at hs4
          have HCS := Lib.hid hCs
          have HRS := Lib.hid rs
          have HF4 := Lib.hid hf4
          have HBS := Lib.hid hbs
          clear hCs rs hf4 hbs kx
          obtain ⟨q, hq⟩ : ∃ q, q = (p + 7) / 8 := ⟨_, rfl⟩
          rw [← hq] at hkn HRS HBS
          have hqI : ((p : Int) + 7) / 8 = (q : Int) := by omega
          have hqb : q ≤ n := by omega
          clear hq
          have kx := hp_cell (j := 0) hx4 rfl
          have kn := hp_cell (j := 0) hn4 rfl
          have kd := hp_cell (j := 0) h2s rfl
          have km := hp_cell (j := 1) HF4.out.box rfl
          have ff := fun j => hp_froz HF4.out.box j
          have hs1 : ∀ u, (convert 22 9 (.slice A' k cap')).run Try.prog (w4.drewN u) = .ok (.string (strB k (fun i => b (q + i)))) (w4.drewN u) := fun u => run_str (HBS.out.chg ((Chg.refl [] w4).drewN u) (fun _ _ _ => by simp))
          have ess : (strB k (fun i => b (q + i)) == strB k (fun i => b (q + i))) = true := ba_beq _
          have g1 : (0 : Int) ≤ (k : Int) := by omega
          have g2 : (k : Int) ≤ (n : Int) - (q : Int) := by omega
          have g3 : (q : Int) + (k : Int) ≤ (n : Int) := by omega
          have g4 : (q : Int) + (k : Int) ≤ (cap : Int) := by omega
          have g6 : (q : Int) ≤ (q : Int) + (k : Int) := by omega
          have g7 : (0 : Int) ≤ (q : Int) := by omega
          have g5 : IntKind.i64.wrap ((q : Int) + (k : Int)) = (q : Int) + (k : Int) := IntWalk.i64_in _ (by omega)
          obtain ⟨B0, hB0⟩ : ∃ B0, B0 = (if cap = q then A0 else A0.map (·.add q)) := ⟨_, rfl⟩
          have hsl : ∀ W : World, (Instr.sliceAt 22 (.slice A0 n cap) (some (.int .i64 (q : Nat))) (some (.int .i64 ((q : Int) + (k : Int)))) none).run Try.prog W = .ok (.slice B0 k (cap - q)) W := fun W => by rw [hB0]; exact run_sla A0 n cap q k (by omega) W
          have hs2 : ∀ u, (convert 22 9 (.slice B0 k (cap - q))).run Try.prog (w4.drewN u) = .ok (.string (strB k (fun i => b (q + i)))) (w4.drewN u) := fun u => run_str (fun hk0 => by
            obtain ⟨b1, o1, he, hl, hcc⟩ := HF4.out.byt (by omega)
            rw [hB0, if_neg (by omega), he]
            refine ⟨b1, o1 + q, by rw [Option.map_some, Addr.add_lit], hl, ?_⟩
            exact fun i hi => by have := hcc (q + i) (by omega); rwa [← Nat.add_assoc] at this)
          clear hB0
          go_wp2_with fail
          go_quiet (fail)
          go_wp2_with fail
          rw [show (8 : Int) * ((q : Int) + (k : Int)) = ((8 * (q + k) : Nat) : Int) by omega]
          have hCm : Chg [w2.heap.size] w4 ((w4.drewN nq).setCell ⟨w2.heap.size, 1, none⟩ (.int .i64 ((8 * (q + k) : Nat) : Int))) := ((Chg.refl _ w4).drewN nq).set (.inl (by simp)) _ _
          have hf5 := HF4.out.move (q := 8 * (q + k)) (sh' := sh) hCm (heap_set (W := w4.drewN nq) (i := 1) HF4.out.box)
          generalize (w4.drewN nq).setCell ⟨w2.heap.size, 1, none⟩ (.int .i64 ((8 * (q + k) : Nat) : Int)) = w5 at *
          have hR5 := HRS.out.far hCm (by simp; omega) (fun a ha => by have := hA a ha; simp; omega)
          have HS5 := Lib.hid (HSB.out.step (S := [g, wr.heap.size + 1 + 1, w2.heap.size]) ((HCS.out.mono (by simp)).trans (hCm.mono (by simp))) (by simp; omega) hR5 hf5 (by omega))
          have kx5 := hp_cell (j := 0) (hp_chg hx4 hCm (by simp)) rfl
          clear hCm hf5 hR5 hs1 hs2 hsl kx kn kd km ff
          refine (leftL g A n c b (8 * (q + k)) _ 0 (by omega) HS5.out.le _ HS5.out.rd).mono ?_
          rintro e w7 ⟨rfl, d1, rfl⟩
          go_wp2_with fail
          refine (left_ref w2.heap.size A0 n cap b (8 * (q + k)) false sh (by omega) HS5.out.le _ (HS5.out.rf.chg ((Chg.refl [] _).drewN d1) (by simp) (fun _ _ _ => by simp))).mono ?_
          rintro e w8 ⟨rfl, d2, rfl⟩
          have hC8 : Chg [] (w5) ((w5).drewN (d1 + d2)) := (Chg.refl [] _).drewN _
          have HF := Lib.hid (HS5.out.step hC8 (by simp) (HS5.out.rd.chg hC8 (by simp) (fun _ _ _ => by simp)) (HS5.out.rf.chg hC8 (by simp) (fun _ _ _ => by simp)) HS5.out.le)
          clear hC8
          go_wp2_with fail
          go_roundw
          case rel => exact ⟨j + 1, 8 * (q + k), sh, by go_num, hlt2, HF.out⟩
          case measure => simp [intOf]; omega
        · go_wp2_with fail
          refine (guard_no _ _ (ent_low2 _) _ (fun w' => w' = ((((wr.alloc (.cells #[.int .i64 kk] 3)).alloc (.cells #[.int .i64 0] 3)).alloc (.cells #[.slice none 0 0] 22))).alloc (.cells #[.bool false] 4)) ?_).mono ?_
          · refine (byt_no (w2.heap.size + 1) wr.heap.size (wr.heap.size + 1 + 1) g A n c b p (by omega) hle kk hk hf64 _ (hp_alloc _ HSB.out.xb) (hp_alloc _ HNB2.out) (HSB.out.rd.alloc _)).mono ?_
            rintro e w' ⟨⟨u, pv, rfl⟩, rfl⟩
            exact ⟨⟨u, pv, rfl⟩, hp_new0 _ _, rfl⟩
          rintro e w' ⟨rfl, w3, rfl, hb3, rfl⟩
          rw [hzb]
          have hCs : Chg [] ((((wr.alloc (.cells #[.int .i64 kk] 3)).alloc (.cells #[.int .i64 0] 3)).alloc (.cells #[.slice none 0 0] 22))) ((((((wr.alloc (.cells #[.int .i64 kk] 3)).alloc (.cells #[.int .i64 0] 3)).alloc (.cells #[.slice none 0 0] 22))).alloc (.cells #[.bool false] 4)).setCell ⟨wr.heap.size + 1 + 1 + 1, 0, none⟩ (.bool false)) := ((Chg.refl _ _).alloc _).set (.inr (by rw [hzb]; exact Nat.le_refl _)) _ _
          clear hb3
          generalize (((((wr.alloc (.cells #[.int .i64 kk] 3)).alloc (.cells #[.int .i64 0] 3)).alloc (.cells #[.slice none 0 0] 22))).alloc (.cells #[.bool false] 4)).setCell ⟨wr.heap.size + 1 + 1 + 1, 0, none⟩ (.bool false) = w4 at *
          have HS4 := Lib.hid (HSB.out.step hCs (by simp) (HSB.out.rd.chg hCs (by simp) (fun _ _ _ => by simp)) (HSB.out.rf.chg hCs (by simp) (fun _ _ _ => by simp)) hle)
          have hn4 := hp_chg HNB2.out hCs (by simp)
          have hd4 := hp_chg HDB.out hCs (by simp)
          clear hCs kx
          obtain ⟨q, hq⟩ : ∃ q, q = (p + 7) / 8 := ⟨_, rfl⟩
          rw [← hq] at hk
          have hqI : ((p : Int) + 7) / 8 = (q : Int) := by omega
          have hqb : q ≤ n := by omega
          clear hq
          have kx := hp_cell (j := 0) HS4.out.xb rfl
          have kn := hp_cell (j := 0) hn4 rfl
          have kd := hp_cell (j := 0) hd4 rfl
          have km := hp_cell (j := 1) HS4.out.rf.box rfl
          by_cases hk0 : 0 ≤ kk
          · have g2 : decide (kk ≤ (n : Int) - (q : Int)) = false := decide_eq_false (by omega)
            clear hk
            go_wp2_with fail
            go_quiet (fail)
            go_wp2_with fail
            have hCq : Chg [] w4 (w4.drewN nq) := (Chg.refl [] w4).drewN nq
            have hk5 := HS4.out.step hCq (by simp) (HS4.out.rd.chg hCq (by simp) (fun _ _ _ => by simp)) (HS4.out.rf.chg hCq (by simp) (fun _ _ _ => by simp)) hle
            generalize w4.drewN nq = w5 at *
            have HS5 := Lib.hid hk5
            have kx5 := hp_cell (j := 0) HS5.out.xb rfl
            clear hCq hk5 kx kn kd km
            refine (leftL g A n c b (p) _ 0 (by omega) HS5.out.le _ HS5.out.rd).mono ?_
            rintro e w7 ⟨rfl, d1, rfl⟩
            go_wp2_with fail
            refine (left_ref w2.heap.size A0 n cap b (p) false sh (by omega) HS5.out.le _ (HS5.out.rf.chg ((Chg.refl [] _).drewN d1) (by simp) (fun _ _ _ => by simp))).mono ?_
            rintro e w8 ⟨rfl, d2, rfl⟩
            have hC8 : Chg [] (w5) ((w5).drewN (d1 + d2)) := (Chg.refl [] _).drewN _
            have HF := Lib.hid (HS5.out.step hC8 (by simp) (HS5.out.rd.chg hC8 (by simp) (fun _ _ _ => by simp)) (HS5.out.rf.chg hC8 (by simp) (fun _ _ _ => by simp)) HS5.out.le)
            clear hC8
            go_wp2_with fail
            go_roundw
            case rel => exact ⟨j + 1, p, sh, by go_num, hlt2, HF.out⟩
            case measure => simp [intOf]; omega
          · clear hk
            go_wp2_with fail
            go_quiet (fail)
            go_wp2_with fail
            have hCq : Chg [] w4 (w4.drewN nq) := (Chg.refl [] w4).drewN nq
            have hk5 := HS4.out.step hCq (by simp) (HS4.out.rd.chg hCq (by simp) (fun _ _ _ => by simp)) (HS4.out.rf.chg hCq (by simp) (fun _ _ _ => by simp)) hle
            generalize w4.drewN nq = w5 at *
            have HS5 := Lib.hid hk5
            have kx5 := hp_cell (j := 0) HS5.out.xb rfl
            clear hCq hk5 kx kn kd km
            refine (leftL g A n c b (p) _ 0 (by omega) HS5.out.le _ HS5.out.rd).mono ?_
            rintro e w7 ⟨rfl, d1, rfl⟩
            go_wp2_with fail
            refine (left_ref w2.heap.size A0 n cap b (p) false sh (by omega) HS5.out.le _ (HS5.out.rf.chg ((Chg.refl [] _).drewN d1) (by simp) (fun _ _ _ => by simp))).mono ?_
            rintro e w8 ⟨rfl, d2, rfl⟩
            have hC8 : Chg [] (w5) ((w5).drewN (d1 + d2)) := (Chg.refl [] _).drewN _
            have HF := Lib.hid (HS5.out.step hC8 (by simp) (HS5.out.rd.chg hC8 (by simp) (fun _ _ _ => by simp)) (HS5.out.rf.chg hC8 (by simp) (fun _ _ _ => by simp)) HS5.out.le)
            clear hC8
            go_wp2_with fail
            go_roundw
            case rel => exact ⟨j + 1, p, sh, by go_num, hlt2, HF.out⟩
            case measure => simp [intOf]; omega
      · have q0 : (dd == 0) = false := by rw [beq_eq_false_iff_ne]; omega
        have q1 : (dd == 1) = false := by rw [beq_eq_false_iff_ne]; omega
        have q2 : (dd == 2) = false := by rw [beq_eq_false_iff_ne]; omega
        have q3 : (dd == 3) = false := by rw [beq_eq_false_iff_ne]; omega
        have kx1 := hp_cell (j := 0) HSA.out.xb rfl
        clear e0 e2 e3
        go_wp2_with fail
        refine (leftL g A n c b (p) _ 0 (by omega) HSA.out.le _ HSA.out.rd).mono ?_
        rintro e w7 ⟨rfl, d1, rfl⟩
        go_wp2_with fail
        refine (left_ref w2.heap.size A0 n cap b (p) false sh (by omega) HSA.out.le _ (HSA.out.rf.chg ((Chg.refl [] _).drewN d1) (by simp) (fun _ _ _ => by simp))).mono ?_
        rintro e w8 ⟨rfl, d2, rfl⟩
        have hC8 : Chg [] ((wr.alloc (.cells #[.int .i64 kk] 3)).alloc (.cells #[.int .i64 0] 3)) (((wr.alloc (.cells #[.int .i64 kk] 3)).alloc (.cells #[.int .i64 0] 3)).drewN (d1 + d2)) := (Chg.refl [] _).drewN _
        have HF := Lib.hid (HSA.out.step hC8 (by simp) (HSA.out.rd.chg hC8 (by simp) (fun _ _ _ => by simp)) (HSA.out.rf.chg hC8 (by simp) (fun _ _ _ => by simp)) HSA.out.le)
        clear hC8
        go_wp2_with fail
        go_roundw
        case rel => exact ⟨j + 1, p, sh, by go_num, hlt2, HF.out⟩
        case measure => simp [intOf]; omega
    · obtain rfl : m = j := by omega
      have HS' := Lib.hid hS
      clear hS
      go_wp2_with fail
      go_ret
      exact ⟨rfl, HS'.out.below⟩
end Go.Proofs.Ythcijcdeecmnmaa
