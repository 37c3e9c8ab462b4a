/- Align, Bytes of a reader from the lowest bit; the reference's Align; the closures of BitsLow. -/
import Derived.Test.YthcijcdeecmnmaaAw1
import Derived.Test.YthcijcdeecmnmaaStrB
import Derived.StillTailTactics
namespace Go.Proofs.Ythcijcdeecmnmaa
set_option linter.unusedVariables false
open Go.ChangeShapes Go.WideShapes Go.ChangeAt Go.RowKit

theorem run_quo8' (p : Nat) (hp : p < 1000000000) : ((p : Int) + 7) / 8 * 8 = (((p + 7) / 8 * 8 : Nat) : Int) := by omega
def up8 (p : Nat) : Nat := (p + 7) / 8 * 8
theorem up8_le {p n : Nat} (h : p ≤ 8 * n) : up8 p ≤ 8 * n := by unfold up8; omega
section
variable (g : Nat) (A : Option Addr) (n cap : Nat) (b : Nat → Nat) (p : Nat) (hn : n ≤ 1000000)
include hn
set_option maxRecDepth 100000 in
set_option maxHeartbeats 400000 in
theorem alignL (vo : Value) (fr : Int) (hp : p ≤ 8 * n) (w : World) (h : Rd 46 g A n cap b p vo fr w) :
    Calls Try.prog 20 #[.pointer (some ⟨g, 0, none⟩)] w fun e w' => e = .returned (.tuple #[]) ∧ Chg [g] w w' ∧ Rd 46 g A n cap b (up8 p) vo fr w' := by
  have c2 := hp_cell (j := 2) h.box rfl
  have ff := fun j => hp_froz h.box j
  have hc : Chg [g] w (w.setCell ⟨g, 2, none⟩ (.int .i64 ((up8 p : Nat) : Int))) := (Chg.refl _ w).set (.inl (by simp)) _ _
  have HF := Lib.hid (show Chg [g] w _ ∧ Rd 46 g A n cap b (up8 p) vo fr (w.setCell ⟨g, 2, none⟩ (.int .i64 ((up8 p : Nat) : Int))) from ⟨hc, h.move hc (heap_set (i := 2) h.box)⟩)
  have hv : (((p : Int) + 7) / 8) * 8 = ((up8 p : Nat) : Int) := run_quo8' p (by omega)
  have hb1 : -9223372036854775808 ≤ ((p : Int) + 7) / 8 * 8 ∧ ((p : Int) + 7) / 8 * 8 ≤ 9223372036854775807 := by omega
  clear h hc
  go_enter Try.func20, Try.ntmps20
  go_wp2
  go_end0
  rw [show ((p : Int) + 8 - 1) / 8 * 8 = ((up8 p : Nat) : Int) by unfold up8; omega]
  exact ⟨rfl, HF.out⟩
set_option maxRecDepth 100000 in
set_option maxHeartbeats 400000 in
theorem align_ref (hi sh : Bool) (hp : p ≤ 8 * n) (w : World) (h : Rf g A n cap b p hi sh w) :
    Calls Try.prog 21 #[.pointer (some ⟨g, 0, none⟩)] w fun e w' => e = .returned (.tuple #[]) ∧ Chg [g] w w' ∧ Rf g A n cap b (up8 p) hi sh w' := by
  have c2 := hp_cell (j := 1) h.box rfl
  have ff := fun j => hp_froz h.box j
  have hc : Chg [g] w (w.setCell ⟨g, 1, none⟩ (.int .i64 ((up8 p : Nat) : Int))) := (Chg.refl _ w).set (.inl (by simp)) _ _
  have HF := Lib.hid (show Chg [g] w _ ∧ Rf g A n cap b (up8 p) hi sh (w.setCell ⟨g, 1, none⟩ (.int .i64 ((up8 p : Nat) : Int))) from ⟨hc, h.move hc (heap_set (i := 1) h.box)⟩)
  have hv : (((p : Int) + 7) / 8) * 8 = ((up8 p : Nat) : Int) := run_quo8' p (by omega)
  have hb1 : -9223372036854775808 ≤ ((p : Int) + 7) / 8 * 8 ∧ ((p : Int) + 7) / 8 * 8 ≤ 9223372036854775807 := by omega
  clear h hc
  go_enter Try.func21, Try.ntmps21
  go_wp2
  go_end0
  exact ⟨rfl, HF.out⟩
set_option maxRecDepth 100000 in
set_option maxHeartbeats 400000 in
theorem bytes_yes (vo : Value) (fr : Int) (k : Nat) (hp : p ≤ 8 * n) (hk : (p + 7) / 8 + k ≤ n) (h1 : n ≤ cap) (h2 : cap ≤ maxLen) (bk : Nat) (hA : A = some ⟨bk, 0, none⟩) (w : World) (h : Rd 46 g A n cap b p vo fr w) :
    Calls Try.prog 23 #[.pointer (some ⟨g, 0, none⟩), .int .i64 (k : Nat)] w fun e w' => ∃ A' cap', e = .returned (.slice A' k cap') ∧ NewB w.heap.size w' k A' cap' (fun i => b ((p + 7) / 8 + i)) ∧ Chg [g] w w' ∧ Rd 46 g A n cap b (8 * ((p + 7) / 8 + k)) vo fr w' := by
  subst hA
  obtain ⟨q, hq⟩ : ∃ q, q = (p + 7) / 8 := ⟨_, rfl⟩
  have hqI : ((p : Int) + 8 - 1) / 8 = (q : Int) := by omega
  have hq2 : ((p : Int) + 7) / 8 = (q : Int) := by omega
  have hqb : q ≤ 1000000 := by omega
  have hkb : k ≤ 1000000 := by omega
  rw [← hq] at hk ⊢
  have hc : Chg [g] w (w.setCell ⟨g, 2, none⟩ (.int .i64 ((8 * (q + k) : Nat) : Int))) := (Chg.refl _ w).set (.inl (by simp)) _ _
  have hR := h.move hc (heap_set (i := 2) h.box)
  have c0 := hp_cell (j := 0) h.box rfl
  have c2 := hp_cell (j := 2) h.box rfl
  have ff := fun j => hp_froz h.box j
  have d1 : decide ((k : Int) < 0) = false := decide_eq_false (by omega)
  have d2 : decide ((n : Int) - (q : Int) < (k : Int)) = false := decide_eq_false (by omega)
  have d3 : (q : Int) + (k : Int) ≤ (cap : Int) := by omega
  have d4 : (q : Int) + (k : Int) ≤ (n : Int) := by omega
  have HC := Lib.hid hc
  have HR := Lib.hid hR
  unfold maxLen at h2
  clear h hc hR hq
  go_enter Try.func23, Try.ntmps23
  have hbyt : Byt (w.setCell ⟨g, 2, none⟩ (.int .i64 ((8 * (q + k) : Nat) : Int))) (some ⟨bk, q, none⟩) k (fun i => b (q + i)) := fun hk0 => by
    obtain ⟨bk', off', he, hlt, hcc⟩ := HR.out.byt (by omega)
    cases he
    refine ⟨bk, q, rfl, hlt, fun j hj => ?_⟩
    have := hcc (q + j) (by omega)
    rwa [Nat.zero_add] at this
  have HBY := Lib.hid hbyt
  clear hbyt
  by_cases hcq : cap = q
  · obtain rfl : k = 0 := by omega
    have HQ := Lib.hid hcq
    go_wp2_with fail
    rw [show (q : Int) * 8 = ((8 * (q + 0) : Nat) : Int) by omega]
    refine (clone_prog (some ⟨bk, 0, none⟩) 0 0 (fun i => b (q + i)) (by omega) (by simp [maxLen]) (fun h => by cases h) (by omega) _ (fun h => absurd h (by omega))).mono ?_
    rintro e w2 ⟨A', cap', rfl, hN, hB⟩
    have HN := Lib.hid hN
    have HB := Lib.hid (HC.out.trans (Chg.of_below hB))
    have HR2 := Lib.hid (HR.out.chg (Chg.of_below (S := []) hB) (by simp) (fun _ _ _ => by simp))
    clear hN hB
    go_wp2
    go_ret
    exact ⟨A', cap', rfl, ⟨HN.out.le, HN.out.max, HN.out.nil, HN.out.byt, (fun a ha => by have := HN.out.far a ha; simpa [World.setCell] using this), HN.out.lt, HN.out.form⟩, HB.out, HR2.out⟩
  · go_wp2_with fail
    rw [show ((q : Int) + (k : Int)) * 8 = ((8 * (q + k) : Nat) : Int) by omega]
    refine (clone_prog (some ⟨bk, q, none⟩) k (cap - q) (fun i => b (q + i)) (by omega) (by unfold maxLen; omega) (fun h => by cases h) (by omega) _ HBY.out).mono ?_
    rintro e w2 ⟨A', cap', rfl, hN, hB⟩
    have HN := Lib.hid hN
    have HB := Lib.hid (HC.out.trans (Chg.of_below hB))
    have HR2 := Lib.hid (HR.out.chg (Chg.of_below (S := []) hB) (by simp) (fun _ _ _ => by simp))
    clear hN hB
    go_wp2
    go_ret
    exact ⟨A', cap', rfl, ⟨HN.out.le, HN.out.max, HN.out.nil, HN.out.byt, (fun a ha => by have := HN.out.far a ha; simpa [World.setCell] using this), HN.out.lt, HN.out.form⟩, HB.out, HR2.out⟩
set_option maxRecDepth 100000 in
set_option maxHeartbeats 400000 in
theorem bytes_no (vo : Value) (fr : Int) (k : Int) (hp : p ≤ 8 * n) (hk : ¬(0 ≤ k ∧ k ≤ ((n - (p + 7) / 8 : Nat) : Int))) (hk64 : In64 k) (w : World) (h : Rd 46 g A n cap b p vo fr w) :
    Calls Try.prog 23 #[.pointer (some ⟨g, 0, none⟩), .int .i64 k] w fun e w' => Stop1 e ∧ w' = w := by
  obtain ⟨q, hq⟩ : ∃ q, q = (p + 7) / 8 := ⟨_, rfl⟩
  have hqI : ((p : Int) + 8 - 1) / 8 = (q : Int) := by omega
  have hq2 : ((p : Int) + 7) / 8 = (q : Int) := by omega
  have hqb : q ≤ n := by omega
  rw [← hq] at hk
  have c0 := hp_cell (j := 0) h.box rfl
  have c2 := hp_cell (j := 2) h.box rfl
  clear h hq
  go_enter Try.func23, Try.ntmps23
  by_cases d1 : k < 0
  · go_wp2
    exact ⟨rfl, ⟨_, _, rfl⟩, rfl⟩
  · have d2 : (n : Int) - (q : Int) < k := by omega
    go_wp2
    exact ⟨rfl, ⟨_, _, rfl⟩, rfl⟩
end
theorem ent_low1 (caps : Array Value) : Enters 18 caps := fun W => by kernel_rfl
theorem ent_low2 (caps : Array Value) : Enters 22 caps := fun W => by kernel_rfl
set_option maxRecDepth 100000 in
set_option maxHeartbeats 400000 in
theorem low_yes (bx nb gb g : Nat) (A : Option Addr) (n cap : Nat) (b : Nat → Nat) (hb : ∀ i, b i < 256) (p : Nat) (hn : n ≤ 1000000) (hp : p ≤ 8 * n) (k : Nat) (hk : askB k (8 * n - p) = true) (w : World)
    (hx : w.heap[bx]? = some (.cells #[.pointer (some ⟨g, 0, none⟩)] 37 (0, 0))) (hi : w.heap[nb]? = some (.cells #[.int .i64 (k : Nat)] 3 (0, 0))) (hg : w.heap[gb]? = some (.cells #[.int .i64 0] 3 (0, 0)))
    (hR : Rd 46 g A n cap b p (.slice none 0 0) 0 w) (hgg : gb ≠ g) (hA : ∀ a, A = some a → a.block ≠ gb) :
    Calls Try.prog 18 #[.pointer (some ⟨bx, 0, none⟩), .pointer (some ⟨nb, 0, none⟩), .pointer (some ⟨gb, 0, none⟩)] w fun e w' =>
      e = .returned (.tuple #[]) ∧ Chg [g, gb] w w' ∧ Rd 46 g A n cap b (p + k) (.slice none 0 0) 0 w' ∧ w'.heap[gb]? = some (.cells #[.int .i64 (takeL b p k : Nat)] 3 (0, 0)) := by
  have kx := hp_cell (j := 0) hx rfl
  have ki := hp_cell (j := 0) hi rfl
  go_enter Try.func18, Try.ntmps18
  go_wp2_with fail
  refine (takeL_yes g A n cap b p _ 0 hn hp hb k hk _ hR).mono ?_
  rintro e w2 ⟨rfl, hC, hR2⟩
  have hg2 := hp_chg hg hC (by simp; omega)
  have c2 := hp_cell (j := 0) hg2 rfl
  have f2 := hp_froz hg2
  have R2 := Lib.hid hR2
  have HC := Lib.hid hC
  clear hR2 hC
  go_wp2
  go_end0
  have hCf : Chg [g, gb] w w2 := HC.out.mono (by simp)
  exact ⟨rfl, hCf.set (.inl (by simp)) _ _, R2.out.set (by simp; omega) (fun _ => hA) _ _, heap_set hg2⟩
set_option maxRecDepth 100000 in
set_option maxHeartbeats 400000 in
theorem low_no (bx nb gb g : Nat) (A : Option Addr) (n cap : Nat) (b : Nat → Nat) (p : Nat) (hn : n ≤ 1000000) (hp : p ≤ 8 * n) (k : Int) (hk : askB k (8 * n - p) = false) (w : World)
    (hx : w.heap[bx]? = some (.cells #[.pointer (some ⟨g, 0, none⟩)] 37 (0, 0))) (hi : w.heap[nb]? = some (.cells #[.int .i64 k] 3 (0, 0)))
    (hR : Rd 46 g A n cap b p (.slice none 0 0) 0 w) :
    Calls Try.prog 18 #[.pointer (some ⟨bx, 0, none⟩), .pointer (some ⟨nb, 0, none⟩), .pointer (some ⟨gb, 0, none⟩)] w fun e w' => Stop1 e ∧ ∃ m, w' = w.drewN m := by
  have kx := hp_cell (j := 0) hx rfl
  have ki := hp_cell (j := 0) hi rfl
  go_enter Try.func18, Try.ntmps18
  go_wp2_with fail
  refine (takeL_no g A n cap b p _ 0 hn hp k hk _ hR).mono ?_
  rintro e w2 ⟨⟨u, pv, rfl⟩, q, rfl⟩
  go_wp2
  exact ⟨rfl, ⟨_, _, rfl⟩, q, rfl⟩
set_option maxRecDepth 100000 in
set_option maxHeartbeats 400000 in
theorem byt_yes (bx nb db g : Nat) (bk : Nat) (n cap : Nat) (b : Nat → Nat) (p : Nat) (hn : n ≤ 1000000) (hp : p ≤ 8 * n) (h1 : n ≤ cap) (h2 : cap ≤ maxLen) (k : Nat) (hk : (p + 7) / 8 + k ≤ n) (w : World)
    (hx : w.heap[bx]? = some (.cells #[.pointer (some ⟨g, 0, none⟩)] 37 (0, 0))) (hi : w.heap[nb]? = some (.cells #[.int .i64 (k : Nat)] 3 (0, 0))) (hd : w.heap[db]? = some (.cells #[.slice none 0 0] 22 (0, 0)))
    (hR : Rd 46 g (some ⟨bk, 0, none⟩) n cap b p (.slice none 0 0) 0 w) (hgg : db ≠ g) (hA : bk ≠ db) :
    Calls Try.prog 22 #[.pointer (some ⟨bx, 0, none⟩), .pointer (some ⟨nb, 0, none⟩), .pointer (some ⟨db, 0, none⟩)] w fun e w' =>
      e = .returned (.tuple #[]) ∧ Chg [g, db] w w' ∧ Rd 46 g (some ⟨bk, 0, none⟩) n cap b (8 * ((p + 7) / 8 + k)) (.slice none 0 0) 0 w' ∧ ∃ A' cap', w'.heap[db]? = some (.cells #[.slice A' k cap'] 22 (0, 0)) ∧ Byt w' A' k (fun i => b ((p + 7) / 8 + i)) ∧ (0 < k → ∀ a, A' = some a → w.heap.size ≤ a.block) := by
  have kx := hp_cell (j := 0) hx rfl
  have ki := hp_cell (j := 0) hi rfl
  go_enter Try.func22, Try.ntmps22
  go_wp2_with fail
  refine (bytes_yes g _ n cap b p hn _ 0 k hp hk h1 h2 bk rfl _ hR).mono ?_
  rintro e w2 ⟨A', cap', rfl, hN, hC, hR2⟩
  have hdl := lt_heap hd
  have hg2 := hp_chg hd hC (by simp; omega)
  have c2 := hp_cell (j := 0) hg2 rfl
  have f2 := hp_froz hg2
  have R2 := Lib.hid hR2
  have HC := Lib.hid hC
  have HN := Lib.hid hN
  clear hR2 hC hN
  go_wp2
  go_end0
  have hCf : Chg [g, db] w w2 := HC.out.mono (by simp)
  exact ⟨rfl, hCf.set (.inl (by simp)) _ _, R2.out.set (by simp; omega) (fun _ a ha => by cases ha; exact hA) _ _, A', cap', heap_set hg2, HN.out.byt.chg ((Chg.refl [db] w2).set (.inl (by simp)) _ _) (fun _ a ha hm => by have := HN.out.far a ha; simp at hm; omega), fun _ => HN.out.far⟩
set_option maxRecDepth 100000 in
set_option maxHeartbeats 400000 in
theorem byt_no (bx nb db g : Nat) (A : Option Addr) (n cap : Nat) (b : Nat → Nat) (p : Nat) (hn : n ≤ 1000000) (hp : p ≤ 8 * n) (k : Int) (hk : ¬(0 ≤ k ∧ k ≤ ((n - (p + 7) / 8 : Nat) : Int))) (hk64 : In64 k) (w : World)
    (hx : w.heap[bx]? = some (.cells #[.pointer (some ⟨g, 0, none⟩)] 37 (0, 0))) (hi : w.heap[nb]? = some (.cells #[.int .i64 k] 3 (0, 0)))
    (hR : Rd 46 g A n cap b p (.slice none 0 0) 0 w) :
    Calls Try.prog 22 #[.pointer (some ⟨bx, 0, none⟩), .pointer (some ⟨nb, 0, none⟩), .pointer (some ⟨db, 0, none⟩)] w fun e w' => Stop1 e ∧ w' = w := by
  have kx := hp_cell (j := 0) hx rfl
  have ki := hp_cell (j := 0) hi rfl
  go_enter Try.func22, Try.ntmps22
  go_wp2_with fail
  refine (bytes_no g A n cap b p hn _ 0 k hp hk hk64 _ hR).mono ?_
  rintro e w2 ⟨⟨u, pv, rfl⟩, rfl⟩
  go_wp2
  exact ⟨rfl, ⟨_, _, rfl⟩, rfl⟩
set_option maxRecDepth 100000 in
set_option maxHeartbeats 400000 in
theorem bytes_nil (g : Nat) (b : Nat → Nat) (vo : Value) (fr : Int) (w : World) (h : Rd 46 g none 0 0 b 0 vo fr w) :
    Calls Try.prog 23 #[.pointer (some ⟨g, 0, none⟩), .int .i64 0] w fun e w' => ∃ A' cap', e = .returned (.slice A' 0 cap') ∧ NewB w.heap.size w' 0 A' cap' b ∧ Chg [g] w w' ∧ Rd 46 g none 0 0 b 0 vo fr w' := by
  have hc : Chg [g] w (w.setCell ⟨g, 2, none⟩ (.int .i64 0)) := (Chg.refl _ w).set (.inl (by simp)) _ _
  have hR : Rd 46 g none 0 0 b 0 vo fr (w.setCell ⟨g, 2, none⟩ (.int .i64 0)) := h.move (q := 0) hc (heap_set (i := 2) h.box)
  have c0 := hp_cell (j := 0) h.box rfl
  have c2 : w.cell? ⟨g, 2, none⟩ = some (.int .i64 0) := hp_cell (j := 2) h.box rfl
  have ff := fun j => hp_froz h.box j
  have HC := Lib.hid hc
  have HR := Lib.hid hR
  clear h hc hR
  go_enter Try.func23, Try.ntmps23
  go_wp2_with fail
  refine (clone_prog none 0 0 b (by omega) (by simp [maxLen]) (fun _ => rfl) (by omega) _ (fun h => absurd h (by omega))).mono ?_
  rintro e w2 ⟨A', cap', rfl, hN, hB⟩
  have HN := Lib.hid hN
  have HB := Lib.hid (HC.out.trans (Chg.of_below hB))
  have HR2 := Lib.hid (HR.out.chg (Chg.of_below (S := []) hB) (by simp) (fun _ _ _ => by simp))
  clear hN hB
  go_wp2
  go_ret
  exact ⟨A', cap', rfl, ⟨HN.out.le, HN.out.max, HN.out.nil, HN.out.byt, (fun a ha => by have := HN.out.far a ha; simpa [World.setCell] using this), HN.out.lt, HN.out.form⟩, HB.out, HR2.out⟩
set_option maxRecDepth 100000 in
set_option maxHeartbeats 400000 in
theorem byt_nil (bx nb db g : Nat) (b : Nat → Nat) (w : World)
    (hx : w.heap[bx]? = some (.cells #[.pointer (some ⟨g, 0, none⟩)] 37 (0, 0))) (hi : w.heap[nb]? = some (.cells #[.int .i64 0] 3 (0, 0))) (hd : w.heap[db]? = some (.cells #[.slice none 0 0] 22 (0, 0)))
    (hR : Rd 46 g none 0 0 b 0 (.slice none 0 0) 0 w) (hgg : db ≠ g) :
    Calls Try.prog 22 #[.pointer (some ⟨bx, 0, none⟩), .pointer (some ⟨nb, 0, none⟩), .pointer (some ⟨db, 0, none⟩)] w fun e w' =>
      e = .returned (.tuple #[]) ∧ Chg [g, db] w w' ∧ Rd 46 g none 0 0 b 0 (.slice none 0 0) 0 w' ∧ ∃ A' cap', w'.heap[db]? = some (.cells #[.slice A' 0 cap'] 22 (0, 0)) := by
  have kx := hp_cell (j := 0) hx rfl
  have ki := hp_cell (j := 0) hi rfl
  go_enter Try.func22, Try.ntmps22
  go_wp2_with fail
  refine (bytes_nil g b _ 0 _ hR).mono ?_
  rintro e w2 ⟨A', cap', rfl, hN, hC, hR2⟩
  have hg2 := hp_chg hd hC (by simp; omega)
  have c2 := hp_cell (j := 0) hg2 rfl
  have f2 := hp_froz hg2
  have R2 := Lib.hid hR2
  have HC := Lib.hid hC
  clear hR2 hC hN
  go_wp2
  go_end0
  have hCf : Chg [g, db] w w2 := HC.out.mono (by simp)
  exact ⟨rfl, hCf.set (.inl (by simp)) _ _, R2.out.set (by simp; omega) (fun _ a ha => by cases ha) _ _, A', cap', heap_set hg2⟩
theorem byt_any (bx nb db g : Nat) (A : Option Addr) (n cap : Nat) (b : Nat → Nat) (p : Nat) (hn : n ≤ 1000000) (hp : p ≤ 8 * n) (h1 : n ≤ cap) (h2 : cap ≤ maxLen) (h0 : A = none → n = 0 ∧ cap = 0) (hfo : ∀ a, A = some a → a = ⟨a.block, 0, none⟩) (k : Nat) (hk : (p + 7) / 8 + k ≤ n) (w : World)
    (hx : w.heap[bx]? = some (.cells #[.pointer (some ⟨g, 0, none⟩)] 37 (0, 0))) (hi : w.heap[nb]? = some (.cells #[.int .i64 (k : Nat)] 3 (0, 0))) (hd : w.heap[db]? = some (.cells #[.slice none 0 0] 22 (0, 0)))
    (hR : Rd 46 g A n cap b p (.slice none 0 0) 0 w) (hgg : db ≠ g) (hA : ∀ a, A = some a → a.block ≠ db) :
    Calls Try.prog 22 #[.pointer (some ⟨bx, 0, none⟩), .pointer (some ⟨nb, 0, none⟩), .pointer (some ⟨db, 0, none⟩)] w fun e w' =>
      e = .returned (.tuple #[]) ∧ Chg [g, db] w w' ∧ Rd 46 g A n cap b (8 * ((p + 7) / 8 + k)) (.slice none 0 0) 0 w' ∧ ∃ A' cap', w'.heap[db]? = some (.cells #[.slice A' k cap'] 22 (0, 0)) ∧ Byt w' A' k (fun i => b ((p + 7) / 8 + i)) ∧ (0 < k → ∀ a, A' = some a → w.heap.size ≤ a.block) := by
  cases A with
  | none =>
    obtain ⟨rfl, rfl⟩ := h0 rfl
    obtain rfl : p = 0 := by omega
    obtain rfl : k = 0 := by omega
    refine (byt_nil bx nb db g b w hx hi hd hR hgg).mono ?_
    rintro e w' ⟨he, hC, hr, A', cap', hh⟩
    exact ⟨he, hC, hr, A', cap', hh, (fun h => absurd h (by omega)), fun h => absurd h (by omega)⟩
  | some a =>
    have e := hfo a rfl
    obtain ⟨bk, o, sp⟩ := a
    cases e
    exact byt_yes bx nb db g bk n cap b p hn hp h1 h2 k hk w hx hi hd hR hgg (hA _ rfl)
end Go.Proofs.Ythcijcdeecmnmaa
