/- BitsHigh: the walk. -/
import Derived.Test.YthcijcdeecmnmaaAw1
import Derived.StillTailTactics
namespace Go.Proofs.Ythcijcdeecmnmaa
set_option linter.unusedVariables false
open Go.ChangeShapes Go.WideShapes Go.ChangeAt Go.RowKit

theorem ent_high (caps : Array Value) : Enters 12 caps := fun W => by kernel_rfl
set_option maxRecDepth 100000 in
set_option maxHeartbeats 400000 in
theorem high_yes (bx bl bi bg g : Nat) (A : Option Addr) (n cap : Nat) (b : Nat → Nat) (hb : ∀ i, b i < 256) (p : Nat) (hn : n ≤ 1000000) (hp : p ≤ 8 * n) (lb lo m capL j k : Nat) (hj : j < m) (hm : m ≤ 1000000) (hk : askB k (8 * n - p) = true) (w : World)
    (hx : w.heap[bx]? = some (.cells #[.pointer (some ⟨g, 0, none⟩)] 25 (0, 0))) (hl : w.heap[bl]? = some (.cells #[.slice (some ⟨lb, lo, none⟩) m capL] 23 (0, 0)))
    (hi : w.heap[bi]? = some (.cells #[.int .i64 (j : Nat)] 3 (0, 0))) (hg : w.heap[bg]? = some (.cells #[.int .i64 0] 3 (0, 0))) (he : w.cell? ⟨lb, lo + j, none⟩ = some (.int .i64 (k : Nat)))
    (hR : Rd 56 g A n cap b p (.slice none 0 0) 0 w) (hgg : bg ≠ g) (hA : ∀ a, A = some a → a.block ≠ bg) :
    Calls Try.prog 12 #[.pointer (some ⟨bx, 0, none⟩), .pointer (some ⟨bl, 0, none⟩), .pointer (some ⟨bi, 0, none⟩), .pointer (some ⟨bg, 0, none⟩)] w fun e w' =>
      e = .returned (.tuple #[]) ∧ Chg [g, bg] w w' ∧ Rd 56 g A n cap b (p + k) (.slice none 0 0) 0 w' ∧ w'.heap[bg]? = some (.cells #[.int .i64 (takeH b p k : Nat)] 3 (0, 0)) := by
  have kx := hp_cell (j := 0) hx rfl
  have kl := hp_cell (j := 0) hl rfl
  have ki := hp_cell (j := 0) hi rfl
  have hR0 := Lib.hid (hR.chg ((Chg.refl [] w).drew) (by simp) (fun _ _ _ => by simp))
  have hg0 : w.drew.heap[bg]? = some (.cells #[.int .i64 0] 3 (0, 0)) := hg
  clear hx hl hi hR
  go_enter Try.func12, Try.ntmps12
  go_wp2_with fail
  go_still_tail 5, (by kernel_rfl)
  change wpList _ _ _ _ _ w.drew
  go_wp2_with fail
  refine (takeH_yes g A n cap b p _ 0 hn hp hb k hk _ hR0.out).mono ?_
  rintro e w2 ⟨rfl, hC, hR2⟩
  have hg2 := hp_chg hg0 hC (by simp; omega)
  have c2 := hp_cell (j := 0) hg2 rfl
  have f2 := hp_froz hg2
  have R2 := Lib.hid hR2
  have HC := Lib.hid hC
  clear hR2 hC
  go_wp2
  go_end0
  have hCf : Chg [g, bg] w w2 := ((Chg.refl [g, bg] w).drew).trans (HC.out.mono (by simp))
  exact ⟨rfl, hCf.set (.inl (by simp)) _ _, R2.out.set (by simp; omega) (fun _ => hA) _ _, heap_set hg2⟩
set_option maxRecDepth 100000 in
set_option maxHeartbeats 400000 in
theorem high_no (bx bl bi bg g : Nat) (A : Option Addr) (n cap : Nat) (b : Nat → Nat) (p : Nat) (hn : n ≤ 1000000) (hp : p ≤ 8 * n) (lb lo m capL j : Nat) (k : Int) (hj : j < m) (hm : m ≤ 1000000) (hk : askB k (8 * n - p) = false) (w : World)
    (hx : w.heap[bx]? = some (.cells #[.pointer (some ⟨g, 0, none⟩)] 25 (0, 0))) (hl : w.heap[bl]? = some (.cells #[.slice (some ⟨lb, lo, none⟩) m capL] 23 (0, 0)))
    (hi : w.heap[bi]? = some (.cells #[.int .i64 (j : Nat)] 3 (0, 0))) (he : w.cell? ⟨lb, lo + j, none⟩ = some (.int .i64 k))
    (hR : Rd 56 g A n cap b p (.slice none 0 0) 0 w) :
    Calls Try.prog 12 #[.pointer (some ⟨bx, 0, none⟩), .pointer (some ⟨bl, 0, none⟩), .pointer (some ⟨bi, 0, none⟩), .pointer (some ⟨bg, 0, none⟩)] w fun e w' =>
      Stop1 e ∧ ∃ m, w' = w.drewN m := by
  have kx := hp_cell (j := 0) hx rfl
  have kl := hp_cell (j := 0) hl rfl
  have ki := hp_cell (j := 0) hi rfl
  have hR0 := Lib.hid (hR.chg ((Chg.refl [] w).drew) (by simp) (fun _ _ _ => by simp))
  clear hx hl hi hR
  go_enter Try.func12, Try.ntmps12
  go_wp2_with fail
  go_still_tail 5, (by kernel_rfl)
  change wpList _ _ _ _ _ w.drew
  go_wp2_with fail
  refine (takeH_no g A n cap b p _ 0 hn hp k hk _ hR0.out).mono ?_
  rintro e w2 ⟨⟨u, pv, rfl⟩, q, rfl⟩
  go_wp2
  exact ⟨rfl, ⟨_, _, rfl⟩, q + 1, by simp [World.drewN, World.drew]; omega⟩
/-- Integers lie in w. -/
def Nums (w : World) (A : Option Addr) (m : Nat) (f : Nat → Int) : Prop :=
  0 < m → ∃ bk off, A = some ⟨bk, off, none⟩ ∧ bk < w.heap.size ∧ ∀ j, j < m → w.cell? ⟨bk, off + j, none⟩ = some (.int .i64 (f j))
theorem Nums.below {w w' : World} {A : Option Addr} {n : Nat} {c : Nat → Int} (h : Nums w A n c) (hb : Below w.heap.size w w') : Nums w' A n c := fun hn => by
  obtain ⟨bk, off, rfl, hlt, hc⟩ := h hn
  exact ⟨bk, off, rfl, Nat.lt_of_lt_of_le hlt hb.size, fun j hj => (hb.cell (p := ⟨bk, off + j, none⟩) hlt).trans (hc j hj)⟩

def jOf (q : Value) (W : World) : Nat := match q with
  | .pointer (some a) => match W.cell? a with
    | some v => (intOf v).toNat
    | none => 0
  | _ => 0
theorem jOf_eq {Q j : Nat} {t : TypeId} {W : World} (h : W.heap[Q]? = some (.cells #[.int .i64 (j : Nat)] t (0, 0))) : jOf (.pointer (some ⟨Q, 0, none⟩)) W = j := by
  have := hp_cell (j := 0) h rfl
  simp [jOf, this, intOf]
/-- The state at the loop's head. -/
structure HS (w : World) (A0 : Option Addr) (n cap : Nat) (b : Nat → Nat) (AL : Option Addr) (m capL : Nat) (f : Nat → Int) (base bl bx gm g : Nat) (A : Option Addr) (c : Nat) (q : Nat) (j p : Nat) (sh : Bool) (W : World) : Prop where
  lb : W.heap[bl]? = some (.cells #[.slice AL m capL] 23 (0, 0))
  xb : W.heap[bx]? = some (.cells #[.pointer (some ⟨g, 0, none⟩)] 25 (0, 0))
  ib : W.heap[q]? = some (.cells #[.int .i64 (j : Nat)] 3 (0, 0))
  rd : Rd 56 g A n c b p (.slice none 0 0) 0 W
  rf : Rf gm A0 n cap b p true sh W
  le : p ≤ 8 * n
  below : Below w.heap.size w W
  hq : base ≤ q ∧ q < W.heap.size
set_option maxRecDepth 100000 in
set_option maxHeartbeats 400000 in
theorem bits_high (A0 : Option Addr) (n cap : Nat) (b : Nat → Nat) (hb : ∀ i, b i < 256) (h1 : n ≤ cap) (h2 : cap ≤ maxLen) (h3 : A0 = none → cap = 0) (AL : Option Addr) (m capL : Nat) (f : Nat → Int) (hf : ∀ i, In64 (f i)) (h4 : m ≤ capL) (h5 : capL ≤ maxLen) (w : World)
    (hP : Byt w A0 n b) (hL : Nums w AL m f) :
    Calls Try.prog 3 #[.slice A0 n cap, .slice AL m capL] w fun e w' => e = .returned (.bool true) ∧ Below w.heap.size w w' := by
  have hmf : ∀ (fn : Fn) (first cap : Array Value) (w : World), (Instr.makeFunc fn first cap).run Try.prog w = .ok (.func fn first cap) w := fun _ _ _ _ => rfl
  have hB := (Below.refl _ w).alloc (Nat.le_refl _) (.cells #[.slice AL m capL] 23)
  have hl0 := hp_new0 w (.cells #[.slice AL m capL] 23)
  go_enter Try.func3, Try.ntmps3
  go_wp2_with fail
  refine (awake1 _).mono ?_
  rintro e w1 ⟨rfl, hB1⟩
  have hl1 := hp_below hl0 hB1 (by simp)
  have HB := Lib.hid (hB.trans (hB1.mono hB.size))
  have kl := hp_cell (j := 0) hl1 rfl
  have hlt := lt_heap hl1
  clear hl0 hB hB1
  unfold maxLen at h2 h5
  by_cases c1 : 2000 < n
  · have t1 : decide ((2000 : Int) < (n : Int)) = true := by simp; omega
    go_wp2
    go_ret
    exact ⟨rfl, HB.out⟩
  have t1 : decide ((2000 : Int) < (n : Int)) = false := by simp; omega
  by_cases c2 : 200 < m
  · have t2 : decide ((200 : Int) < (m : Int)) = true := by simp; omega
    go_wp2
    go_ret
    exact ⟨rfl, HB.out⟩
  have t2 : decide ((200 : Int) < (m : Int)) = false := by simp; omega
  go_wp2_with fail
  refine (newH A0 n cap b h1 (by unfold maxLen; omega) h3 (by omega) _ (hP.below HB.out)).mono ?_
  rintro e w2 ⟨g, A, c, rfl, hg, hR, hA, hB2⟩
  have hl2 := hp_below hl1 hB2 hlt
  have HB2 := Lib.hid (HB.out.trans (hB2.mono HB.out.size))
  have hs2 := hB2.size
  clear hl1 kl HB hB2
  go_wp2_with fail
  have hHS : HS w A0 n cap b AL m capL f (w2.heap.size + 1 + 1) w.heap.size (w2.heap.size + 1) w2.heap.size g A c (w2.heap.size + 1 + 1) 0 0 false (((w2.alloc (.cells #[.slice A0 n cap, .int .i64 0, .bool true, .bool false] 29)).alloc (.cells #[.pointer (some ⟨g, 0, none⟩)] 25)).alloc (.cells #[.int .i64 0] 3)) := by
    have hw := HB2.out.size
    have hC : Chg [] w2 (((w2.alloc (.cells #[.slice A0 n cap, .int .i64 0, .bool true, .bool false] 29)).alloc (.cells #[.pointer (some ⟨g, 0, none⟩)] 25)).alloc (.cells #[.int .i64 0] 3)) := (((Chg.refl _ _).alloc _).alloc _).alloc _
    have hBw := HB2.out.trans (hC.below (B := w.heap.size) (by omega) (by simp))
    refine ⟨hp_chg hl2 hC (by simp), hp_alloc _ (hp_newk (by simp)), hp_newk (by simp), hR.chg hC (by simp) (fun _ _ _ => by simp), ⟨hp_alloc _ (hp_alloc _ (hp_new0 _ _)), hP.below hBw, ?_⟩, by omega, hBw, by simp⟩
    intro h0 a ha
    obtain ⟨bk, off, rfl, hlt, _⟩ := hP h0
    cases ha
    simp
    omega
  have hgl := lt_heap hR.box
  have HP := Lib.hid hP
  have HL := Lib.hid hL
  have hww := HB2.out.size
  clear hR hl2 HB2 hP hL
  go_loopw [7] (fun q wr => ∃ (Q j p : Nat) (sh : Bool), q = .pointer (some ⟨Q, 0, none⟩) ∧ j ≤ m ∧ HS w A0 n cap b AL m capL f (w2.heap.size + 1 + 1) w.heap.size (w2.heap.size + 1) w2.heap.size g A c Q j p sh wr) (fun q W => m - jOf q W)
  case atStart => exact ⟨_, 0, 0, false, rfl, by omega, hHS⟩
  case round =>
    obtain ⟨Q, j, p, sh, rfl, hj, hS⟩ := hrel
    have kl := hp_cell (j := 0) hS.lb rfl
    have kx := hp_cell (j := 0) hS.xb rfl
    have kq := hp_cell (j := 0) hS.ib rfl
    have hQ := hS.hq
    have hsz := hS.below.size
    by_cases hlt2 : j < m
    · obtain ⟨lb, lo, rfl, hlb, hlc⟩ := (HL.out.below hS.below) (by omega)
      have he := hlc j hlt2
      have hlw : lb < w.heap.size := by
        obtain ⟨_, _, h, hh, _⟩ := HL.out (by omega)
        cases h
        exact hh
      obtain ⟨kk, hkk⟩ : ∃ kk, kk = f j := ⟨_, rfl⟩
      rw [← hkk] at he
      clear hkk
      have hle := hS.le
      cases hk : askB kk (8 * n - p) with
      | true =>
        have hk0 : 0 ≤ kk ∧ kk ≤ 24 ∧ kk ≤ ((8 * n - p : Nat) : Int) := by simpa [askB] using hk
        obtain ⟨k, rfl⟩ := Int.eq_ofNat_of_zero_le hk0.1
        have HK := Lib.hid hk
        have HE := Lib.hid he
        have HS' := Lib.hid hS
        clear hk hlc hS
        go_wp2_with fail
        refine (guard_yes _ _ (ent_high _) _ (fun w' => Chg [g, wr.heap.size] (wr.alloc (.cells #[.int .i64 0] 3)) w' ∧ Rd 56 g A n c b (p + k) (.slice none 0 0) 0 w' ∧ w'.heap[wr.heap.size]? = some (.cells #[.int .i64 (takeH b p k : Nat)] 3 (0, 0))) ?_).mono ?_
        · refine (high_yes (w2.heap.size + 1) w.heap.size Q wr.heap.size g A n c b hb p (by omega) hle lb lo m capL j k hlt2 (by omega) HK.out _ (hp_alloc _ (hp_alloc _ HS'.out.xb)) (hp_alloc _ (hp_alloc _ HS'.out.lb)) (hp_alloc _ (hp_alloc _ HS'.out.ib)) (hp_alloc _ (hp_new0 _ _)) ?_ ((HS'.out.rd.alloc _).alloc _) (by omega) (fun a ha => by have := hA a ha; omega)).mono ?_
          · exact ((((Below.refl wr.heap.size wr).alloc (Nat.le_refl _) _).alloc (by simp) _).cell (p := ⟨lb, lo + j, none⟩) hlb).trans HE.out
          rintro e w' ⟨rfl, hC, r, k0⟩
          exact ⟨rfl, hp_chg (hp_new0 _ _) hC (by simp; omega), ((Chg.refl _ _).alloc _).trans hC, r, k0⟩
        rintro e w' ⟨rfl, w3, ⟨hC, r, k0⟩, hb3, rfl⟩
        have hsa : (wr.alloc (.cells #[.int .i64 0] 3)).heap.size = wr.heap.size + 1 := World.size_alloc _ _
        rw [hsa]
        have h2s := hp_oth (g := wr.heap.size + 1) (i := 0) (v := .bool true) k0 (by omega)
        have hCs := hC.set (g := wr.heap.size + 1) (.inr (by simp)) 0 (.bool true)
        have rs := r.set (x := wr.heap.size + 1) (by simp; omega) (fun _ a ha => by have := hA a ha; omega) 0 (.bool true)
        have hCw : Chg [g, wr.heap.size] wr (w3.setCell ⟨wr.heap.size + 1, 0, none⟩ (.bool true)) := ((Chg.refl _ _).alloc _).trans hCs
        have hBf : Below w.heap.size w (w3.setCell ⟨wr.heap.size + 1, 0, none⟩ (.bool true)) := HS'.out.below.trans (hCw.below (by omega) (by simp; omega))
        have hsz3 := hCs.size
        rw [World.size_alloc] at hsz3
        clear hC k0 r hb3 hCs
        generalize w3.setCell ⟨wr.heap.size + 1, 0, none⟩ (.bool true) = w4 at *
        have hlb4 := hp_chg HS'.out.lb hCw (by simp; omega)
        have hxb4 := hp_chg HS'.out.xb hCw (by simp; omega)
        have hib4 := hp_chg HS'.out.ib hCw (by simp; omega)
        have hrf4 : Rf w2.heap.size A0 n cap b p true sh w4 := ⟨hp_chg HS'.out.rf.box hCw (by simp; omega), HP.out.below hBf, HS'.out.rf.off⟩
        have he4 := (hBf.cell (p := ⟨lb, lo + j, none⟩) hlw).trans ((HS'.out.below.cell (p := ⟨lb, lo + j, none⟩) hlw).symm.trans HE.out)
        clear kl kx kq he HE
        have kl := hp_cell (j := 0) hlb4 rfl
        have kx := hp_cell (j := 0) hxb4 rfl
        have kq := hp_cell (j := 0) hib4 rfl
        have kg := hp_cell (j := 0) h2s rfl
        have HRS := Lib.hid rs
        have HRF := Lib.hid hrf4
        have HBF := Lib.hid hBf
        clear rs hrf4 hBf hCw
        go_wp2_with fail
        refine (take_refH w2.heap.size A0 n cap b p sh (by omega) hle hb k HK.out _ HRF.out).mono ?_
        rintro e w5 ⟨rfl, hC5, hrf5⟩
        have hlb5 := hp_chg hlb4 hC5 (by simp; omega)
        have hxb5 := hp_chg hxb4 hC5 (by simp)
        have hib5 := hp_chg hib4 hC5 (by simp; omega)
        have h2s5 := hp_chg h2s hC5 (by simp; omega)
        have hrd5 := HRS.out.chg hC5 (by simp; omega) (fun _ a ha => by have := hA a ha; simp; omega)
        have hBf5 := HBF.out.trans (hC5.below (B := w.heap.size) (by omega) (by simp; omega))
        have hsz5 := hC5.size
        clear kl kx kq kg hlb4 hxb4 hib4 h2s HRS HRF HBF hC5 he4
        have kl := hp_cell (j := 0) hlb5 rfl
        have kx := hp_cell (j := 0) hxb5 rfl
        have kq := hp_cell (j := 0) hib5 rfl
        have kg := hp_cell (j := 0) h2s5 rfl
        have HRD := Lib.hid hrd5
        have HRF := Lib.hid hrf5
        have HBF := Lib.hid hBf5
        have etk : takeB true b p k = takeH b p k := rfl
        rw [etk]
        clear hrd5 hrf5 hBf5
        go_wp2_with fail
        refine (leftH g A n c b (p + k) _ 0 (by omega) (by omega) _ HRD.out).mono ?_
        rintro e w6 ⟨rfl, d1, rfl⟩
        go_wp2_with fail
        refine (left_ref w2.heap.size A0 n cap b (p + k) true sh (by omega) (by omega) _ (HRF.out.chg ((Chg.refl [] w5).drewN d1) (by simp) (fun _ _ _ => by simp))).mono ?_
        rintro e w7 ⟨rfl, d2, rfl⟩
        have hC8 : Chg [] w5 ((w5.drewN d1).drewN d2) := ((Chg.refl [] w5).drewN d1).drewN d2
        generalize (w5.drewN d1).drewN d2 = w8 at *
        have hlb8 := hp_chg hlb5 hC8 (by simp)
        have hxb8 := hp_chg hxb5 hC8 (by simp)
        have hib8 := hp_chg hib5 hC8 (by simp)
        have h2s8 := hp_chg h2s5 hC8 (by simp)
        have hrd8 := HRD.out.chg hC8 (by simp) (fun _ _ _ => by simp)
        have hrf8 := HRF.out.chg hC8 (by simp) (fun _ _ _ => by simp)
        have hBf8 := HBF.out.trans (hC8.below (B := w.heap.size) (by omega) (by simp))
        have hsz8 := hC8.size
        have HF8 := Lib.hid (show HS w A0 n cap b (some ⟨lb, lo, none⟩) m capL f (w2.heap.size + 1 + 1) w.heap.size (w2.heap.size + 1) w2.heap.size g A c w8.heap.size (j + 1) (p + k) sh (w8.alloc (.cells #[.int .i64 ((j + 1 : Nat) : Int)] 3)) from
          ⟨hp_alloc _ hlb8, hp_alloc _ hxb8, hp_newk rfl, hrd8.alloc _, hrf8.chg ((Chg.refl [] w8).alloc _) (by simp) (fun _ _ _ => by simp), by omega, hBf8.alloc (by omega) _, by omega, by simp⟩)
        clear kl kx kq kg hlb5 hxb5 hib5 h2s5 HRD HRF HBF hC8 hrd8 hrf8 hBf8
        have kl := hp_cell (j := 0) hlb8 rfl
        have kx := hp_cell (j := 0) hxb8 rfl
        have kq := hp_cell (j := 0) hib8 rfl
        have kg := hp_cell (j := 0) h2s8 rfl
        go_wp2_with fail
        go_roundw
        case rel => exact ⟨_, j + 1, p + k, sh, rfl, by omega, by rw [show ((j : Int) + 1) = ((j + 1 : Nat) : Int) by simp]; exact HF8.out⟩
        case measure =>
          rw [show ((j : Int) + 1) = ((j + 1 : Nat) : Int) by simp, jOf_eq HF8.out.ib, jOf_eq HS'.out.ib]
          omega
      | false =>
        have HK := Lib.hid hk
        have HE := Lib.hid he
        have HS' := Lib.hid hS
        clear hk hlc hS
        go_wp2_with fail
        refine (guard_no _ _ (ent_high _) _ (fun w' => Chg [g, wr.heap.size] (wr.alloc (.cells #[.int .i64 0] 3)) w' ∧ Rd 56 g A n c b p (.slice none 0 0) 0 w' ∧ w'.heap[wr.heap.size]? = some (.cells #[.int .i64 0] 3 (0, 0))) ?_).mono ?_
        · refine (high_no (w2.heap.size + 1) w.heap.size Q wr.heap.size g A n c b p (by omega) hle lb lo m capL j kk hlt2 (by omega) HK.out _ (hp_alloc _ (hp_alloc _ HS'.out.xb)) (hp_alloc _ (hp_alloc _ HS'.out.lb)) (hp_alloc _ (hp_alloc _ HS'.out.ib)) ?_ ((HS'.out.rd.alloc _).alloc _)).mono ?_
          · exact ((((Below.refl wr.heap.size wr).alloc (Nat.le_refl _) _).alloc (by simp) _).cell (p := ⟨lb, lo + j, none⟩) hlb).trans HE.out
          rintro e w' ⟨⟨u, pv, rfl⟩, d0, rfl⟩
          have hC0 : Chg [g, wr.heap.size] (wr.alloc (.cells #[.int .i64 0] 3)) (((wr.alloc (.cells #[.int .i64 0] 3)).alloc (.cells #[.bool false] 4)).drewN d0) := ((Chg.refl _ _).alloc _).drewN d0
          exact ⟨⟨u, pv, rfl⟩, hp_new0 (wr.alloc (.cells #[.int .i64 0] 3)) _, hC0, (((HS'.out.rd.alloc _).alloc _).chg ((Chg.refl [] _).drewN d0) (by simp) (fun _ _ _ => by simp)), hp_alloc (W := wr.alloc (.cells #[.int .i64 0] 3)) _ (hp_new0 _ _)⟩
        rintro e w' ⟨rfl, w3, ⟨hC, r, k0⟩, hb3, rfl⟩
        have hsa : (wr.alloc (.cells #[.int .i64 0] 3)).heap.size = wr.heap.size + 1 := World.size_alloc _ _
        rw [hsa]
        have h2s := hp_oth (g := wr.heap.size + 1) (i := 0) (v := .bool false) k0 (by omega)
        have hCs := hC.set (g := wr.heap.size + 1) (.inr (by simp)) 0 (.bool false)
        have rs := r.set (x := wr.heap.size + 1) (by simp; omega) (fun _ a ha => by have := hA a ha; omega) 0 (.bool false)
        have hCw : Chg [g, wr.heap.size] wr (w3.setCell ⟨wr.heap.size + 1, 0, none⟩ (.bool false)) := ((Chg.refl _ _).alloc _).trans hCs
        have hBf : Below w.heap.size w (w3.setCell ⟨wr.heap.size + 1, 0, none⟩ (.bool false)) := HS'.out.below.trans (hCw.below (by omega) (by simp; omega))
        have hsz3 := hCs.size
        rw [World.size_alloc] at hsz3
        clear hC k0 r hb3 hCs
        generalize w3.setCell ⟨wr.heap.size + 1, 0, none⟩ (.bool false) = w4 at *
        have hlb4 := hp_chg HS'.out.lb hCw (by simp; omega)
        have hxb4 := hp_chg HS'.out.xb hCw (by simp; omega)
        have hib4 := hp_chg HS'.out.ib hCw (by simp; omega)
        have hrf4 : Rf w2.heap.size A0 n cap b p true sh w4 := ⟨hp_chg HS'.out.rf.box hCw (by simp; omega), HP.out.below hBf, HS'.out.rf.off⟩
        have he4 := (hBf.cell (p := ⟨lb, lo + j, none⟩) hlw).trans ((HS'.out.below.cell (p := ⟨lb, lo + j, none⟩) hlw).symm.trans HE.out)
        clear kl kx kq he HE
        have kl := hp_cell (j := 0) hlb4 rfl
        have kx := hp_cell (j := 0) hxb4 rfl
        have kq := hp_cell (j := 0) hib4 rfl
        have kg := hp_cell (j := 0) h2s rfl
        have HRS := Lib.hid rs
        have HRF := Lib.hid hrf4
        have HBF := Lib.hid hBf
        clear rs hrf4 hBf hCw
        go_wp2_with fail
        refine (take_ref_no w2.heap.size A0 n cap b p true sh (by omega) hle kk HK.out _ HRF.out).mono ?_
        rintro e w5 ⟨rfl, hC5, hrf5⟩
        have hlb5 := hp_chg hlb4 hC5 (by simp; omega)
        have hxb5 := hp_chg hxb4 hC5 (by simp)
        have hib5 := hp_chg hib4 hC5 (by simp; omega)
        have h2s5 := hp_chg h2s hC5 (by simp; omega)
        have hrd5 := HRS.out.chg hC5 (by simp; omega) (fun _ a ha => by have := hA a ha; simp; omega)
        have hBf5 := HBF.out.trans (hC5.below (B := w.heap.size) (by omega) (by simp; omega))
        have hsz5 := hC5.size
        clear kl kx kq kg hlb4 hxb4 hib4 h2s HRS HRF HBF hC5 he4
        have kl := hp_cell (j := 0) hlb5 rfl
        have kx := hp_cell (j := 0) hxb5 rfl
        have kq := hp_cell (j := 0) hib5 rfl
        have kg := hp_cell (j := 0) h2s5 rfl
        have HRD := Lib.hid hrd5
        have HRF := Lib.hid hrf5
        have HBF := Lib.hid hBf5
        clear hrd5 hrf5 hBf5
        go_wp2_with fail
        refine (leftH g A n c b p _ 0 (by omega) (by omega) _ HRD.out).mono ?_
        rintro e w6 ⟨rfl, d1, rfl⟩
        go_wp2_with fail
        refine (left_ref w2.heap.size A0 n cap b p true true (by omega) (by omega) _ (HRF.out.chg ((Chg.refl [] w5).drewN d1) (by simp) (fun _ _ _ => by simp))).mono ?_
        rintro e w7 ⟨rfl, d2, rfl⟩
        have hC8 : Chg [] w5 ((w5.drewN d1).drewN d2) := ((Chg.refl [] w5).drewN d1).drewN d2
        generalize (w5.drewN d1).drewN d2 = w8 at *
        have hlb8 := hp_chg hlb5 hC8 (by simp)
        have hxb8 := hp_chg hxb5 hC8 (by simp)
        have hib8 := hp_chg hib5 hC8 (by simp)
        have h2s8 := hp_chg h2s5 hC8 (by simp)
        have hrd8 := HRD.out.chg hC8 (by simp) (fun _ _ _ => by simp)
        have hrf8 := HRF.out.chg hC8 (by simp) (fun _ _ _ => by simp)
        have hBf8 := HBF.out.trans (hC8.below (B := w.heap.size) (by omega) (by simp))
        have hsz8 := hC8.size
        have HF8 := Lib.hid (show HS w A0 n cap b (some ⟨lb, lo, none⟩) m capL f (w2.heap.size + 1 + 1) w.heap.size (w2.heap.size + 1) w2.heap.size g A c w8.heap.size (j + 1) p true (w8.alloc (.cells #[.int .i64 ((j + 1 : Nat) : Int)] 3)) from
          ⟨hp_alloc _ hlb8, hp_alloc _ hxb8, hp_newk rfl, hrd8.alloc _, hrf8.chg ((Chg.refl [] w8).alloc _) (by simp) (fun _ _ _ => by simp), by omega, hBf8.alloc (by omega) _, by omega, by simp⟩)
        clear kl kx kq kg hlb5 hxb5 hib5 h2s5 HRD HRF HBF hC8 hrd8 hrf8 hBf8
        have kl := hp_cell (j := 0) hlb8 rfl
        have kx := hp_cell (j := 0) hxb8 rfl
        have kq := hp_cell (j := 0) hib8 rfl
        have kg := hp_cell (j := 0) h2s8 rfl
        go_wp2_with fail
        go_roundw
        case rel => exact ⟨_, j + 1, p, true, rfl, by omega, by rw [show ((j : Int) + 1) = ((j + 1 : Nat) : Int) by simp]; exact HF8.out⟩
        case measure =>
          rw [show ((j : Int) + 1) = ((j + 1 : Nat) : Int) by simp, jOf_eq HF8.out.ib, jOf_eq HS'.out.ib]
          omega
    · obtain rfl : j = m := by omega
      have HS' := Lib.hid hS
      clear hS
      go_wp2_with fail
      go_ret
      exact ⟨rfl, HS'.out.below⟩
end Go.Proofs.Ythcijcdeecmnmaa
