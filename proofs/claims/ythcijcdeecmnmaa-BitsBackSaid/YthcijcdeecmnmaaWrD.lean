/- BitsWrite: its closure's contracts, the state at its loop's head. -/
import Derived.Test.YthcijcdeecmnmaaWrC
import Derived.Test.YthcijcdeecmnmaaOpD
namespace Go.Proofs.Ythcijcdeecmnmaa
set_option linter.unusedVariables false
open Go.ChangeShapes Go.WideShapes Go.ChangeAt Go.RowKit

def TT (hi : Bool) : TypeId := if hi = true then 56 else 46
def gw (hi : Bool) (g1 g2 : Nat) : Nat := if hi = true then g2 else g1
theorem ent_wr (caps : Array Value) : Enters 33 caps := fun W => by kernel_rfl
set_option maxRecDepth 100000 in
set_option maxHeartbeats 400000 in
theorem wr_yes (hi : Bool) (B b6 xb nb b5 g1 g2 : Nat) (l : List Nat) (ob : Option Nat) (hl : l.length ≤ 500000) (x : Int) (hx : In64 x) (n : Nat) (hn : n ≤ 24) (w : World)
    (h0 : w.heap[B]? = some (.cells #[.bool hi] 4 (0, 0))) (h6 : w.heap[b6]? = some (.cells #[.pointer (some ⟨g2, 0, none⟩)] 25 (0, 0))) (h5 : w.heap[b5]? = some (.cells #[.pointer (some ⟨g1, 0, none⟩)] 37 (0, 0)))
    (hxb : w.heap[xb]? = some (.cells #[.int .i64 x] 3 (0, 0))) (hnb : w.heap[nb]? = some (.cells #[.int .i64 (n : Nat)] 3 (0, 0))) (hW : Wp (TT hi) hi (gw hi g1 g2) l ob w) :
    Calls Try.prog 33 #[.pointer (some ⟨B, 0, none⟩), .pointer (some ⟨b6, 0, none⟩), .pointer (some ⟨xb, 0, none⟩), .pointer (some ⟨nb, 0, none⟩), .pointer (some ⟨b5, 0, none⟩)] w fun e w' =>
      e = .returned (.tuple #[]) ∧ Chg (Near (gw hi g1 g2) ob) w w' ∧ ∃ ob', Wp (TT hi) hi (gw hi g1 g2) (l ++ numB hi x n) ob' w' ∧ Next ob ob' w := by
  have c0 := hp_cell (j := 0) h0 rfl
  have c6 := hp_cell (j := 0) h6 rfl
  have c5 := hp_cell (j := 0) h5 rfl
  have cx := hp_cell (j := 0) hxb rfl
  have cn := hp_cell (j := 0) hnb rfl
  have HW := Lib.hid hW
  clear h0 h6 h5 hxb hnb hW
  go_enter Try.func33, Try.ntmps33
  cases hi with
  | true =>
    go_wp2_with fail
    refine (putH_wp g2 l ob hl x hx n hn _ HW.out).mono ?_
    rintro e w2 ⟨rfl, hC, ob', hW', hN⟩
    have H1 := Lib.hid hC
    have H2 := Lib.hid hW'
    have H3 := Lib.hid hN
    clear hC hW' hN c0 c6 c5 cx cn
    go_wp2
    go_end0
    exact ⟨rfl, H1.out, ob', H2.out, H3.out⟩
  | false =>
    go_wp2_with fail
    refine (putL_wp g1 l ob hl x hx n hn _ HW.out).mono ?_
    rintro e w2 ⟨rfl, hC, ob', hW', hN⟩
    have H1 := Lib.hid hC
    have H2 := Lib.hid hW'
    have H3 := Lib.hid hN
    clear hC hW' hN c0 c6 c5 cx cn
    go_wp2
    go_end0
    exact ⟨rfl, H1.out, ob', H2.out, H3.out⟩
set_option maxRecDepth 100000 in
set_option maxHeartbeats 400000 in
theorem wr_no (hi : Bool) (B b6 xb nb b5 g1 g2 : Nat) (x n : Int) (hn : mayN n = false) (w : World)
    (h0 : w.heap[B]? = some (.cells #[.bool hi] 4 (0, 0))) (h6 : w.heap[b6]? = some (.cells #[.pointer (some ⟨g2, 0, none⟩)] 25 (0, 0))) (h5 : w.heap[b5]? = some (.cells #[.pointer (some ⟨g1, 0, none⟩)] 37 (0, 0)))
    (hxb : w.heap[xb]? = some (.cells #[.int .i64 x] 3 (0, 0))) (hnb : w.heap[nb]? = some (.cells #[.int .i64 n] 3 (0, 0))) :
    Calls Try.prog 33 #[.pointer (some ⟨B, 0, none⟩), .pointer (some ⟨b6, 0, none⟩), .pointer (some ⟨xb, 0, none⟩), .pointer (some ⟨nb, 0, none⟩), .pointer (some ⟨b5, 0, none⟩)] w fun e w' => Stop1 e ∧ w = w' := by
  have c0 := hp_cell (j := 0) h0 rfl
  have c6 := hp_cell (j := 0) h6 rfl
  have c5 := hp_cell (j := 0) h5 rfl
  have cx := hp_cell (j := 0) hxb rfl
  have cn := hp_cell (j := 0) hnb rfl
  clear h0 h6 h5 hxb hnb
  have HN := Lib.hid hn
  clear hn
  go_enter Try.func33, Try.ntmps33
  cases hi with
  | true =>
    go_wp2_with fail
    refine (putH_no g2 x n HN.out _).mono ?_
    rintro e w2 ⟨⟨u, pv, rfl⟩, rfl⟩
    go_wp2
    exact ⟨rfl, ⟨_, _, rfl⟩, rfl⟩
  | false =>
    go_wp2_with fail
    refine (putL_no g1 x n HN.out _).mono ?_
    rintro e w2 ⟨⟨u, pv, rfl⟩, rfl⟩
    go_wp2
    exact ⟨rfl, ⟨_, _, rfl⟩, rfl⟩
/-- The state at the loop's head. -/
structure HWr (w : World) (K0 B b5 b6 g1 g2 gm : Nat) (hi : Bool) (l m : List Nat) (ob om : Option Nat) (W : World) : Prop where
  bb : W.heap[B]? = some (.cells #[.bool hi] 4 (0, 0))
  b5 : W.heap[b5]? = some (.cells #[.pointer (some ⟨g1, 0, none⟩)] 37 (0, 0))
  b6 : W.heap[b6]? = some (.cells #[.pointer (some ⟨g2, 0, none⟩)] 25 (0, 0))
  wp : Wp (TT hi) hi (gw hi g1 g2) l ob W
  we : Wp (TT (!hi)) (!hi) (gw (!hi) g1 g2) [] none W
  pk : Pk gm m hi om W
  fo : ∀ k, ob = some k → K0 ≤ k ∧ om ≠ some k
  fm : ∀ k, om = some k → K0 ≤ k
  below : Below w.heap.size w W
  sz : K0 ≤ W.heap.size
structure Dis (w : World) (K0 B b5 b6 g1 g2 gm : Nat) : Prop where
  lo : w.heap.size ≤ B ∧ w.heap.size ≤ b5 ∧ w.heap.size ≤ b6 ∧ w.heap.size ≤ g1 ∧ w.heap.size ≤ g2 ∧ w.heap.size ≤ gm
  hi : B < K0 ∧ b5 < K0 ∧ b6 < K0 ∧ g1 < K0 ∧ g2 < K0 ∧ gm < K0
  d0 : B ≠ b5 ∧ B ≠ b6 ∧ B ≠ g1 ∧ B ≠ g2 ∧ B ≠ gm
  d5 : b5 ≠ b6 ∧ b5 ≠ g1 ∧ b5 ≠ g2 ∧ b5 ≠ gm
  d6 : b6 ≠ g1 ∧ b6 ≠ g2 ∧ b6 ≠ gm
  dg : g1 ≠ g2 ∧ g1 ≠ gm ∧ g2 ≠ gm
section
variable {w : World} {K0 B b5 b6 g1 g2 gm : Nat} {hi : Bool} {l m : List Nat} {ob om : Option Nat} {W W' : World}
theorem gw_or (hi : Bool) (g1 g2 : Nat) : gw hi g1 g2 = g1 ∧ gw (!hi) g1 g2 = g2 ∨ gw hi g1 g2 = g2 ∧ gw (!hi) g1 g2 = g1 := by
  cases hi <;> simp [gw]
theorem near_mem {g k : Nat} {ob : Option Nat} : k ∈ Near g ob ↔ k = g ∨ ob = some k := by
  cases ob <;> simp [Near, eq_comm]
theorem HWr.far (h : HWr w K0 B b5 b6 g1 g2 gm hi l m ob om W) {S : List Nat} (hc : Chg S W W') (hS : ∀ k ∈ S, W.heap.size ≤ k) : HWr w K0 B b5 b6 g1 g2 gm hi l m ob om W' := by
  have hn : ∀ k, k < W.heap.size → k ∉ S := fun k hk hm => by have := hS k hm; omega
  exact ⟨hp_chg h.bb hc (hn _ (lt_heap h.bb)), hp_chg h.b5 hc (hn _ (lt_heap h.b5)), hp_chg h.b6 hc (hn _ (lt_heap h.b6)), h.wp.chg hc (hn _ h.wp.g_lt) (fun k hk => hn _ (h.wp.ob_lt hk)), h.we.chg hc (hn _ h.we.g_lt) (fun k hk => by cases hk), h.pk.chg hc (hn _ h.pk.g_lt) (fun k hk => hn _ (h.pk.ob_lt hk)), h.fo, h.fm,
    h.below.trans (hc.below h.below.size (fun k hk => by have := hS k hk; have := h.below.size; omega)), Nat.le_trans h.sz hc.size⟩
theorem HWr.off (h : HWr w K0 B b5 b6 g1 g2 gm hi l m ob om W) (hd : Dis w K0 B b5 b6 g1 g2 gm) {S : List Nat} (hc : Chg S W W') (hS : ∀ k ∈ S, K0 ≤ k ∧ ob ≠ some k ∧ om ≠ some k) : HWr w K0 B b5 b6 g1 g2 gm hi l m ob om W' := by
  obtain ⟨⟨x1, x2, x3, x4, x5, x6⟩, ⟨y1, y2, y3, y4, y5, y6⟩, ⟨z1, z2, z3, z4, z5⟩, ⟨u1, u2, u3, u4⟩, ⟨v1, v2, v3⟩, ⟨t1, t2, t3⟩⟩ := hd
  have hg := gw_or hi g1 g2
  have hn : ∀ k, k < K0 → k ∉ S := fun k hk hm => by have := (hS k hm).1; omega
  exact ⟨hp_chg h.bb hc (hn _ y1), hp_chg h.b5 hc (hn _ y2), hp_chg h.b6 hc (hn _ y3), h.wp.chg hc (hn _ (by omega)) (fun k hk hm => (hS k hm).2.1 hk), h.we.chg hc (hn _ (by omega)) (fun k hk => by cases hk), h.pk.chg hc (hn _ y6) (fun k hk hm => (hS k hm).2.2 hk), h.fo, h.fm,
    h.below.trans (hc.below h.below.size (fun k hk => by have := (hS k hk).1; omega)), Nat.le_trans h.sz hc.size⟩
theorem HWr.put (h : HWr w K0 B b5 b6 g1 g2 gm hi l m ob om W) (hd : Dis w K0 B b5 b6 g1 g2 gm) {l' : List Nat} {ob' : Option Nat} (hc : Chg (Near (gw hi g1 g2) ob) W W') (hW : Wp (TT hi) hi (gw hi g1 g2) l' ob' W') (hN : Next ob ob' W) :
    HWr w K0 B b5 b6 g1 g2 gm hi l' m ob' om W' := by
  obtain ⟨⟨x1, x2, x3, x4, x5, x6⟩, ⟨y1, y2, y3, y4, y5, y6⟩, ⟨z1, z2, z3, z4, z5⟩, ⟨u1, u2, u3, u4⟩, ⟨v1, v2, v3⟩, ⟨t1, t2, t3⟩⟩ := hd
  have hg := gw_or hi g1 g2
  have hob : ∀ k, k < K0 → ob ≠ some k := fun k hk e => by have := (h.fo k e).1; omega
  have hm : ∀ k, k < K0 → k ≠ gw hi g1 g2 → k ∉ Near (gw hi g1 g2) ob := fun k hk hn hmm => by
    rcases near_mem.1 hmm with e | e
    · exact hn e
    · exact hob k hk e
  refine ⟨hp_chg h.bb hc (hm _ y1 (by omega)), hp_chg h.b5 hc (hm _ y2 (by omega)), hp_chg h.b6 hc (hm _ y3 (by omega)), hW, h.we.chg hc (hm _ (by omega) (by omega)) (fun k hk => by cases hk), h.pk.chg hc (hm _ y6 (by omega)) (fun k hk hmm => ?_), fun k hk => ?_, h.fm, h.below.trans (hc.below h.below.size (fun k hk => ?_)), Nat.le_trans h.sz hc.size⟩
  · rcases near_mem.1 hmm with e | e
    · have := h.fm k hk
      omega
    · exact (h.fo k e).2 hk
  · rcases hN with e | ⟨r, e, hr⟩
    · exact h.fo k (e.symm.trans hk)
    · have e2 : some r = some k := e.symm.trans hk
      cases e2
      have hsz := h.sz
      refine ⟨by omega, fun hk2 => ?_⟩
      have := h.pk.ob_lt hk2
      omega
  · rcases near_mem.1 hk with e | e
    · omega
    · have := (h.fo k e).1
      omega
theorem HWr.pack (h : HWr w K0 B b5 b6 g1 g2 gm hi l m ob om W) (hd : Dis w K0 B b5 b6 g1 g2 gm) {m' : List Nat} {om' : Option Nat} (hc : Chg (Near gm om) W W') (hP : Pk gm m' hi om' W') (hN : Next om om' W) :
    HWr w K0 B b5 b6 g1 g2 gm hi l m' ob om' W' := by
  obtain ⟨⟨x1, x2, x3, x4, x5, x6⟩, ⟨y1, y2, y3, y4, y5, y6⟩, ⟨z1, z2, z3, z4, z5⟩, ⟨u1, u2, u3, u4⟩, ⟨v1, v2, v3⟩, ⟨t1, t2, t3⟩⟩ := hd
  have hg := gw_or hi g1 g2
  have hom : ∀ k, k < K0 → om ≠ some k := fun k hk e => by have := h.fm k e; omega
  have hm : ∀ k, k < K0 → k ≠ gm → k ∉ Near gm om := fun k hk hn hmm => by
    rcases near_mem.1 hmm with e | e
    · exact hn e
    · exact hom k hk e
  refine ⟨hp_chg h.bb hc (hm _ y1 (by omega)), hp_chg h.b5 hc (hm _ y2 (by omega)), hp_chg h.b6 hc (hm _ y3 (by omega)), h.wp.chg hc (hm _ (by omega) (by omega)) (fun k hk hmm => ?_), h.we.chg hc (hm _ (by omega) (by omega)) (fun k hk => by cases hk), hP, fun k hk => ⟨(h.fo k hk).1, fun e => ?_⟩, fun k hk => ?_, h.below.trans (hc.below h.below.size (fun k hk => ?_)), Nat.le_trans h.sz hc.size⟩
  · have h1 := h.fo k hk
    rcases near_mem.1 hmm with e | e
    · omega
    · exact h1.2 e
  · rcases hN with e2 | ⟨r, e2, hr⟩
    · exact (h.fo k hk).2 (e2.symm.trans e)
    · have e3 : some r = some k := e2.symm.trans e
      cases e3
      have := h.wp.ob_lt hk
      omega
  · rcases hN with e2 | ⟨r, e2, hr⟩
    · exact h.fm k (e2.symm.trans hk)
    · have e3 : some r = some k := e2.symm.trans hk
      cases e3
      have := h.sz
      omega
  · rcases near_mem.1 hk with e | e
    · omega
    · have := h.fm k e
      omega
theorem HWr.lo1 (h : HWr w K0 B b5 b6 g1 g2 gm hi l m ob om W) : ∃ ob1, Wp 46 false g1 (if hi = true then [] else l) ob1 W := by
  cases hi with
  | true => exact ⟨none, h.we⟩
  | false => exact ⟨ob, h.wp⟩
end
end Go.Proofs.Ythcijcdeecmnmaa
