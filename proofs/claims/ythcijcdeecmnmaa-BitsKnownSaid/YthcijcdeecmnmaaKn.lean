/- BitsKnown: its closures, and Guard's laws for them. -/
import Derived.Test.YthcijcdeecmnmaaWrC
namespace Go.Proofs.Ythcijcdeecmnmaa
set_option linter.unusedVariables false
open Go.ChangeShapes Go.WideShapes Go.ChangeAt Go.RowKit

theorem guard_no_b (k : FuncId) (caps : Array Value) (hent : Enters k caps) (w : World)
    (hk : Calls Try.prog k caps (w.alloc (.cells #[.bool false] 4)) fun e w' => Stop1 e ∧ ∃ m, w' = (w.alloc (.cells #[.bool false] 4)).drewN m) :
    Calls Try.prog 11 #[.func (.func k) #[] caps] w fun e w' => e = .returned (.bool false) ∧ Below w.heap.size w w' := by
  refine (guard_no k caps hent w (fun w' => ∃ m, w' = (w.alloc (.cells #[.bool false] 4)).drewN m) (hk.mono ?_)).mono ?_
  · rintro e w' ⟨hs, m, rfl⟩
    exact ⟨hs, hp_new0 w _, m, rfl⟩
  · rintro e w' ⟨rfl, w1, ⟨m, rfl⟩, _, rfl⟩
    exact ⟨rfl, ((((Chg.refl [] w).alloc _).drewN m).below (Nat.le_refl _) (by simp)).setCell (p := ⟨w.heap.size, 0, none⟩) (Nat.le_refl _) _⟩
theorem guard_yes_b (k : FuncId) (caps : Array Value) (hent : Enters k caps) (w : World) (S : List Nat) (R : World → Prop) (hS : w.heap.size ∉ S) (hset : ∀ W : World, R W → R (W.setCell ⟨w.heap.size, 0, none⟩ (.bool true)))
    (hk : Calls Try.prog k caps (w.alloc (.cells #[.bool false] 4)) fun e w' => e = .returned (.tuple #[]) ∧ Chg S (w.alloc (.cells #[.bool false] 4)) w' ∧ R w') :
    Calls Try.prog 11 #[.func (.func k) #[] caps] w fun e w' => e = .returned (.bool true) ∧ Chg S w w' ∧ R w' := by
  refine (guard_yes k caps hent w (fun w' => Chg S w w' ∧ R w') (hk.mono ?_)).mono ?_
  · rintro e w' ⟨rfl, hC, hR⟩
    exact ⟨rfl, hp_chg (hp_new0 w _) hC hS, ((Chg.refl S w).alloc _).trans hC, hR⟩
  · rintro e w' ⟨rfl, w1, ⟨hC, hR⟩, _, rfl⟩
    exact ⟨rfl, hC.set (.inr (Nat.le_refl _)) _ _, hset _ hR⟩
theorem guard_nil (w : World) : Calls Try.prog 11 #[.nilFunc] w fun e w' => e = .returned (.bool true) ∧ Below w.heap.size w w' := by
  have hmf : ∀ (fn : Fn) (first cap : Array Value) (w : World), (Instr.makeFunc fn first cap).run Try.prog w = .ok (.func fn first cap) w := fun _ _ _ _ => rfl
  have hnil : ∀ w : World, (binOp BinOp.eql 1 .nilFunc .nilFunc).run Try.prog w = .ok (.bool true) w := fun _ => by kernel_rfl
  have h0 := hp_cell (j := 0) (hp_new0 w (.cells #[.bool true] 4)) rfl
  go_enter_defers Try.func11, Try.ntmps11
  go_wp2
  simp [bodyPostD, Leaves, settle, results, Try.results11, go_sem, h0]
  exact (Below.refl _ w).alloc (Nat.le_refl _) _
theorem kn_panic (w : World) : Calls Try.prog 32 #[] w fun e w' => Stop1 e ∧ ∃ m, w' = w.drewN m := by
  go_enter Try.func32, Try.ntmps32
  go_wp2
  exact ⟨rfl, ⟨_, _, rfl⟩, 0, rfl⟩
section
variable (bl g : Nat) (A : Option Addr) (n cap : Nat) (b : Nat → Nat) (p : Nat) (hn : n ≤ 1000000)
include hn
set_option maxRecDepth 100000 in
set_option maxHeartbeats 400000 in
theorem kn_no1 (hp : p ≤ 8 * n) (w : World) (hl : w.heap[bl]? = some (.cells #[.pointer (some ⟨g, 0, none⟩)] 37 (0, 0))) (hR : Rd 46 g A n cap b p (.slice none 0 0) 0 w) :
    Calls Try.prog 25 #[.pointer (some ⟨bl, 0, none⟩)] w fun e w' => Stop1 e ∧ ∃ m, w' = w.drewN m := by
  have kx := hp_cell (j := 0) hl rfl
  go_enter Try.func25, Try.ntmps25
  go_wp2_with fail
  refine (takeL_no g A n cap b p _ 0 hn hp 25 (by unfold askB; apply decide_eq_false; omega) _ hR).mono ?_
  rintro e w2 ⟨⟨u, pv, rfl⟩, q, rfl⟩
  go_wp2
  exact ⟨rfl, ⟨_, _, rfl⟩, q, rfl⟩
set_option maxRecDepth 100000 in
set_option maxHeartbeats 400000 in
theorem kn_no2 (hp : p ≤ 8 * n) (w : World) (hl : w.heap[bl]? = some (.cells #[.pointer (some ⟨g, 0, none⟩)] 37 (0, 0))) (hR : Rd 46 g A n cap b p (.slice none 0 0) 0 w) :
    Calls Try.prog 26 #[.pointer (some ⟨bl, 0, none⟩)] w fun e w' => Stop1 e ∧ ∃ m, w' = w.drewN m := by
  have kx := hp_cell (j := 0) hl rfl
  go_enter Try.func26, Try.ntmps26
  go_wp2_with fail
  refine (takeL_no g A n cap b p _ 0 hn hp (-1) (by unfold askB; apply decide_eq_false; omega) _ hR).mono ?_
  rintro e w2 ⟨⟨u, pv, rfl⟩, q, rfl⟩
  go_wp2
  exact ⟨rfl, ⟨_, _, rfl⟩, q, rfl⟩
set_option maxRecDepth 100000 in
set_option maxHeartbeats 400000 in
theorem kn_no5 (hp : p ≤ 8 * n) (h0 : 8 * n - p = 0) (w : World) (hR : Rd 46 g A n cap b p (.slice none 0 0) 0 w) :
    Calls Try.prog 29 #[.pointer (some ⟨g, 0, none⟩)] w fun e w' => Stop1 e ∧ ∃ m, w' = w.drewN m := by
  go_enter Try.func29, Try.ntmps29
  go_wp2_with fail
  refine (takeL_no g A n cap b p _ 0 hn hp 1 (by unfold askB; apply decide_eq_false; omega) _ hR).mono ?_
  rintro e w2 ⟨⟨u, pv, rfl⟩, q, rfl⟩
  go_wp2
  exact ⟨rfl, ⟨_, _, rfl⟩, q, rfl⟩
set_option maxRecDepth 100000 in
set_option maxHeartbeats 400000 in
theorem kn_yes3 (xb : Nat) (hp : p + 24 ≤ 8 * n) (hb : ∀ i, b i < 256) (w : World) (hl : w.heap[bl]? = some (.cells #[.pointer (some ⟨g, 0, none⟩)] 37 (0, 0))) (hx : w.heap[xb]? = some (.cells #[.int .i64 0] 3 (0, 0))) (hR : Rd 46 g A n cap b p (.slice none 0 0) 0 w) (hne : xb ≠ g) (hA : 0 < n → ∀ a, A = some a → a.block ≠ xb) :
    Calls Try.prog 27 #[.pointer (some ⟨bl, 0, none⟩), .pointer (some ⟨xb, 0, none⟩)] w fun e w' => e = .returned (.tuple #[]) ∧ Chg [g, xb] w w' ∧ Rd 46 g A n cap b (p + 24) (.slice none 0 0) 0 w' ∧ w'.heap[xb]? = some (.cells #[.int .i64 (takeL b p 24 : Nat)] 3 (0, 0)) := by
  have kx := hp_cell (j := 0) hl rfl
  go_enter Try.func27, Try.ntmps27
  go_wp2_with fail
  refine (takeL_yes g A n cap b p _ 0 hn (by omega) hb 24 (by unfold askB; apply decide_eq_true; omega) _ hR).mono ?_
  rintro e w2 ⟨rfl, hC, hR2⟩
  have hg2 := hp_chg hx hC (by simp; omega)
  have cg := hp_cell (j := 0) hg2 rfl
  have fg := hp_froz hg2 0
  have H1 := Lib.hid hC
  have H2 := Lib.hid hR2
  have H3 := Lib.hid hg2
  clear hC hR2 hg2 kx
  go_wp2
  go_end0
  exact ⟨rfl, (H1.out.mono (by simp)).set (.inl (by simp)) _ _, H2.out.set (by simp; omega) hA _ _, heap_set H3.out⟩
set_option maxRecDepth 100000 in
set_option maxHeartbeats 400000 in
theorem kn_yes4 (xb : Nat) (hp : p + 0 ≤ 8 * n) (hb : ∀ i, b i < 256) (w : World) (hl : w.heap[bl]? = some (.cells #[.pointer (some ⟨g, 0, none⟩)] 37 (0, 0))) (hx : w.heap[xb]? = some (.cells #[.int .i64 0] 3 (0, 0))) (hR : Rd 46 g A n cap b p (.slice none 0 0) 0 w) (hne : xb ≠ g) (hA : 0 < n → ∀ a, A = some a → a.block ≠ xb) :
    Calls Try.prog 28 #[.pointer (some ⟨bl, 0, none⟩), .pointer (some ⟨xb, 0, none⟩)] w fun e w' => e = .returned (.tuple #[]) ∧ Chg [g, xb] w w' ∧ Rd 46 g A n cap b (p + 0) (.slice none 0 0) 0 w' ∧ w'.heap[xb]? = some (.cells #[.int .i64 (takeL b p 0 : Nat)] 3 (0, 0)) := by
  have kx := hp_cell (j := 0) hl rfl
  go_enter Try.func28, Try.ntmps28
  go_wp2_with fail
  refine (takeL_yes g A n cap b p _ 0 hn (by omega) hb 0 (by unfold askB; apply decide_eq_true; omega) _ hR).mono ?_
  rintro e w2 ⟨rfl, hC, hR2⟩
  have hg2 := hp_chg hx hC (by simp; omega)
  have cg := hp_cell (j := 0) hg2 rfl
  have fg := hp_froz hg2 0
  have H1 := Lib.hid hC
  have H2 := Lib.hid hR2
  have H3 := Lib.hid hg2
  clear hC hR2 hg2 kx
  go_wp2
  go_end0
  exact ⟨rfl, (H1.out.mono (by simp)).set (.inl (by simp)) _ _, H2.out.set (by simp; omega) hA _ _, heap_set H3.out⟩
end
end Go.Proofs.Ythcijcdeecmnmaa
