/- BitsBack: its closure's contract, the states at its loops' heads. -/
import Derived.Test.YthcijcdeecmnmaaWrD
import Derived.Test.YthcijcdeecmnmaaBkP
namespace Go.Proofs.Ythcijcdeecmnmaa
set_option linter.unusedVariables false
open Go.ChangeShapes Go.WideShapes Go.ChangeAt Go.RowKit

theorem ent_bk (caps : Array Value) : Enters 38 caps := fun W => by kernel_rfl
set_option maxRecDepth 100000 in
set_option maxHeartbeats 400000 in
theorem bk_yes (hi : Bool) (B b10 nb gb b9 g1 g2 : Nat) (A : Option Addr) (n cap : Nat) (b : Nat → Nat) (p : Nat) (hn : n ≤ 1000000) (hp : p ≤ 8 * n) (hb : ∀ i, b i < 256) (k : Nat) (hk : askB k (8 * n - p) = true) (w : World)
    (h0 : w.heap[B]? = some (.cells #[.bool hi] 4 (0, 0))) (h6 : w.heap[b10]? = some (.cells #[.pointer (some ⟨g2, 0, none⟩)] 25 (0, 0))) (h5 : w.heap[b9]? = some (.cells #[.pointer (some ⟨g1, 0, none⟩)] 37 (0, 0)))
    (hnb : w.heap[nb]? = some (.cells #[.int .i64 (k : Nat)] 3 (0, 0))) (hgb : w.heap[gb]? = some (.cells #[.int .i64 0] 3 (0, 0))) (hR : Rd (TT hi) (gw hi g1 g2) A n cap b p (.slice none 0 0) 0 w) (hne : gb ≠ gw hi g1 g2) (hA : 0 < n → ∀ a, A = some a → a.block ≠ gb) :
    Calls Try.prog 38 #[.pointer (some ⟨B, 0, none⟩), .pointer (some ⟨b10, 0, none⟩), .pointer (some ⟨nb, 0, none⟩), .pointer (some ⟨gb, 0, none⟩), .pointer (some ⟨b9, 0, none⟩)] w fun e w' =>
      e = .returned (.tuple #[]) ∧ Chg [gw hi g1 g2, gb] w w' ∧ Rd (TT hi) (gw hi g1 g2) A n cap b (p + k) (.slice none 0 0) 0 w' ∧ w'.heap[gb]? = some (.cells #[.int .i64 (takeB hi b p k : Nat)] 3 (0, 0)) := by
  have c0 := hp_cell (j := 0) h0 rfl
  have c6 := hp_cell (j := 0) h6 rfl
  have c5 := hp_cell (j := 0) h5 rfl
  have cn := hp_cell (j := 0) hnb rfl
  have HR := Lib.hid hR
  have HA := Lib.hid hA
  clear h0 h6 h5 hnb hR hA
  go_enter Try.func38, Try.ntmps38
  cases hi with
  | true =>
    go_wp2_with fail
    refine (takeH_yes g2 A n cap b p _ 0 hn hp hb k hk _ HR.out).mono ?_
    rintro e w2 ⟨rfl, hC, hR2⟩
    have hne' : gb ≠ g2 := hne
    have hg2 := hp_chg hgb hC (by simp; omega)
    have cg := hp_cell (j := 0) hg2 rfl
    have fg := hp_froz hg2 0
    have H1 := Lib.hid hC
    have H2 := Lib.hid hR2
    have H3 := Lib.hid hg2
    clear hC hR2 hg2 c0 c6 c5 cn hgb
    go_wp2
    go_end0
    exact ⟨rfl, (H1.out.mono (by simp [gw])).set (.inl (by simp)) _ _, H2.out.set (by simp; omega) HA.out _ _, heap_set H3.out⟩
  | false =>
    go_wp2_with fail
    refine (takeL_yes g1 A n cap b p _ 0 hn hp hb k hk _ HR.out).mono ?_
    rintro e w2 ⟨rfl, hC, hR2⟩
    have hne' : gb ≠ g1 := hne
    have hg2 := hp_chg hgb hC (by simp; omega)
    have cg := hp_cell (j := 0) hg2 rfl
    have fg := hp_froz hg2 0
    have H1 := Lib.hid hC
    have H2 := Lib.hid hR2
    have H3 := Lib.hid hg2
    clear hC hR2 hg2 c0 c6 c5 cn hgb
    go_wp2
    go_end0
    exact ⟨rfl, (H1.out.mono (by simp [gw])).set (.inl (by simp)) _ _, H2.out.set (by simp; omega) HA.out _ _, heap_set H3.out⟩
/-- The state of the first loop: two writers. -/
structure HB1 (w : World) (K0 B g1 g2 : Nat) (hi : Bool) (l1 l2 : List Nat) (o1 o2 : Option Nat) (W : World) : Prop where
  bb : W.heap[B]? = some (.cells #[.bool hi] 4 (0, 0))
  wl : Wp 46 false g1 l1 o1 W
  wh : Wp 56 true g2 l2 o2 W
  f1 : ∀ k, o1 = some k → K0 ≤ k ∧ o2 ≠ some k
  f2 : ∀ k, o2 = some k → K0 ≤ k
  below : Below w.heap.size w W
  sz : K0 ≤ W.heap.size
structure Dis1 (w : World) (K0 B g1 g2 : Nat) : Prop where
  lo : w.heap.size ≤ B ∧ w.heap.size ≤ g1 ∧ w.heap.size ≤ g2
  hi : B < K0 ∧ g1 < K0 ∧ g2 < K0
  d : B ≠ g1 ∧ B ≠ g2 ∧ g1 ≠ g2
section
variable {w : World} {K0 B g1 g2 : Nat} {hi : Bool} {l1 l2 : List Nat} {o1 o2 : Option Nat} {W W' : World}
theorem HB1.far (h : HB1 w K0 B g1 g2 hi l1 l2 o1 o2 W) (hc : Below W.heap.size W W') : HB1 w K0 B g1 g2 hi l1 l2 o1 o2 W' := by
  have hc2 := Chg.of_below (S := []) hc
  exact ⟨hp_chg h.bb hc2 (by simp), h.wl.chg hc2 (by simp) (fun _ _ => by simp), h.wh.chg hc2 (by simp) (fun _ _ => by simp), h.f1, h.f2, h.below.trans (hc.mono h.below.size), Nat.le_trans h.sz hc.size⟩
theorem HB1.putl (h : HB1 w K0 B g1 g2 hi l1 l2 o1 o2 W) (hd : Dis1 w K0 B g1 g2) {l' : List Nat} {o' : Option Nat} (hc : Chg (Near g1 o1) W W') (hW : Wp 46 false g1 l' o' W') (hN : Next o1 o' W) : HB1 w K0 B g1 g2 hi l' l2 o' o2 W' := by
  obtain ⟨⟨x1, x2, x3⟩, ⟨y1, y2, y3⟩, ⟨z1, z2, z3⟩⟩ := hd
  have hm : ∀ k, k < K0 → k ≠ g1 → k ∉ Near g1 o1 := fun k hk hn hmm => by
    rcases near_mem.1 hmm with e | e
    · exact hn e
    · have := (h.f1 k e).1
      omega
  refine ⟨hp_chg h.bb hc (hm _ y1 (by omega)), hW, h.wh.chg hc (hm _ y3 (by omega)) (fun k hk hmm => ?_), fun k hk => ?_, h.f2, h.below.trans (hc.below h.below.size (fun k hk => ?_)), Nat.le_trans h.sz hc.size⟩
  · rcases near_mem.1 hmm with e | e
    · have := h.f2 k hk
      omega
    · exact (h.f1 k e).2 hk
  · rcases hN with e | ⟨r, e, hr⟩
    · exact h.f1 k (e.symm.trans hk)
    · have e2 : some r = some k := e.symm.trans hk
      cases e2
      have hsz := h.sz
      refine ⟨by omega, fun hk2 => ?_⟩
      have := h.wh.ob_lt hk2
      omega
  · rcases near_mem.1 hk with e | e
    · omega
    · have := (h.f1 k e).1
      omega
theorem HB1.puth (h : HB1 w K0 B g1 g2 hi l1 l2 o1 o2 W) (hd : Dis1 w K0 B g1 g2) {l' : List Nat} {o' : Option Nat} (hc : Chg (Near g2 o2) W W') (hW : Wp 56 true g2 l' o' W') (hN : Next o2 o' W) : HB1 w K0 B g1 g2 hi l1 l' o1 o' W' := by
  obtain ⟨⟨x1, x2, x3⟩, ⟨y1, y2, y3⟩, ⟨z1, z2, z3⟩⟩ := hd
  have hm : ∀ k, k < K0 → k ≠ g2 → k ∉ Near g2 o2 := fun k hk hn hmm => by
    rcases near_mem.1 hmm with e | e
    · exact hn e
    · have := h.f2 k e
      omega
  refine ⟨hp_chg h.bb hc (hm _ y1 (by omega)), h.wl.chg hc (hm _ y2 (by omega)) (fun k hk hmm => ?_), hW, fun k hk => ⟨(h.f1 k hk).1, fun e => ?_⟩, fun k hk => ?_, h.below.trans (hc.below h.below.size (fun k hk => ?_)), Nat.le_trans h.sz hc.size⟩
  · rcases near_mem.1 hmm with e | e
    · have := (h.f1 k hk).1
      omega
    · exact (h.f1 k hk).2 e
  · rcases hN with e2 | ⟨r, e2, hr⟩
    · exact (h.f1 k hk).2 (e2.symm.trans e)
    · have e3 : some r = some k := e2.symm.trans e
      cases e3
      have := h.wl.ob_lt hk
      omega
  · rcases hN with e2 | ⟨r, e2, hr⟩
    · exact h.f2 k (e2.symm.trans hk)
    · have e3 : some r = some k := e2.symm.trans hk
      cases e3
      have := h.sz
      omega
  · rcases near_mem.1 hk with e | e
    · omega
    · have := h.f2 k e
      omega
end
/-- The state of the second loop: two readers, of which one reads. -/
structure HB2 (w : World) (K0 B b9 b10 g1 g2 : Nat) (hi : Bool) (A : Option Addr) (n cap : Nat) (b : Nat → Nat) (A' : Option Addr) (n' cap' : Nat) (b' : Nat → Nat) (p : Nat) (W : World) : Prop where
  bb : W.heap[B]? = some (.cells #[.bool hi] 4 (0, 0))
  b9 : W.heap[b9]? = some (.cells #[.pointer (some ⟨g1, 0, none⟩)] 37 (0, 0))
  b10 : W.heap[b10]? = some (.cells #[.pointer (some ⟨g2, 0, none⟩)] 25 (0, 0))
  rd : Rd (TT hi) (gw hi g1 g2) A n cap b p (.slice none 0 0) 0 W
  re : Rd (TT (!hi)) (gw (!hi) g1 g2) A' n' cap' b' 0 (.slice none 0 0) 0 W
  below : Below w.heap.size w W
  sz : K0 ≤ W.heap.size
structure Dis2 (w : World) (K0 B b9 b10 g1 g2 : Nat) (hi : Bool) (A : Option Addr) (n : Nat) (A' : Option Addr) (n' : Nat) : Prop where
  lo : w.heap.size ≤ B ∧ w.heap.size ≤ b9 ∧ w.heap.size ≤ b10 ∧ w.heap.size ≤ g1 ∧ w.heap.size ≤ g2
  up : B < K0 ∧ b9 < K0 ∧ b10 < K0 ∧ g1 < K0 ∧ g2 < K0
  d0 : B ≠ g1 ∧ B ≠ g2 ∧ b9 ≠ g1 ∧ b9 ≠ g2 ∧ b10 ≠ g1 ∧ b10 ≠ g2 ∧ g1 ≠ g2
  a1 : 0 < n → ∀ a, A = some a → a.block < K0
  a2 : 0 < n' → ∀ a, A' = some a → a.block < K0 ∧ a.block ≠ gw hi g1 g2
section
variable {w : World} {K0 B b9 b10 g1 g2 : Nat} {hi : Bool} {A : Option Addr} {n cap : Nat} {b : Nat → Nat} {A' : Option Addr} {n' cap' : Nat} {b' : Nat → Nat} {p p' : Nat} {W W' : World}
theorem HB2.step (h : HB2 w K0 B b9 b10 g1 g2 hi A n cap b A' n' cap' b' p W) (hd : Dis2 w K0 B b9 b10 g1 g2 hi A n A' n') {S : List Nat} (hc : Chg S W W') (hS : ∀ k ∈ S, k = gw hi g1 g2 ∨ K0 ≤ k) (hR : Rd (TT hi) (gw hi g1 g2) A n cap b p' (.slice none 0 0) 0 W') :
    HB2 w K0 B b9 b10 g1 g2 hi A n cap b A' n' cap' b' p' W' := by
  obtain ⟨⟨x1, x2, x3, x4, x5⟩, ⟨y1, y2, y3, y4, y5⟩, ⟨z1, z2, z3, z4, z5, z6, z7⟩, a1, a2⟩ := hd
  have hg := gw_or hi g1 g2
  have hn : ∀ k, k < K0 → k ≠ gw hi g1 g2 → k ∉ S := fun k hk h1 hm => by
    rcases hS k hm with e | e
    · exact h1 e
    · omega
  refine ⟨hp_chg h.bb hc (hn _ y1 (by omega)), hp_chg h.b9 hc (hn _ y2 (by omega)), hp_chg h.b10 hc (hn _ y3 (by omega)), hR, h.re.chg hc (hn _ (by omega) (by omega)) (fun h0 a ha => hn _ (a2 h0 a ha).1 (a2 h0 a ha).2), h.below.trans (hc.below h.below.size (fun k hk => ?_)), Nat.le_trans h.sz hc.size⟩
  rcases hS k hk with e | e <;> omega
theorem HB2.far (h : HB2 w K0 B b9 b10 g1 g2 hi A n cap b A' n' cap' b' p W) (hd : Dis2 w K0 B b9 b10 g1 g2 hi A n A' n') {S : List Nat} (hc : Chg S W W') (hS : ∀ k ∈ S, K0 ≤ k) : HB2 w K0 B b9 b10 g1 g2 hi A n cap b A' n' cap' b' p W' := by
  have hg := gw_or hi g1 g2
  have hd2 := hd.up
  refine h.step hd hc (fun k hk => .inr (hS k hk)) (h.rd.chg hc (fun hm => ?_) (fun h0 a ha hm => ?_))
  · have := hS _ hm
    omega
  · have h1 := hS _ hm
    have h2 := hd.a1 h0 a ha
    omega
end
end Go.Proofs.Ythcijcdeecmnmaa
