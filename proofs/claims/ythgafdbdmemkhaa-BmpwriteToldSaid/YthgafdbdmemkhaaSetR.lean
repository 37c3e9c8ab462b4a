/- Set of both, over rows of one's own. -/
import Derived.Test.YthgafdbdmemkhaaRef8
import Derived.Test.YthgafdbdmemkhaaSame
namespace Go.Proofs.Ythgafdbdmemkhaa
set_option linter.unusedVariables false
open Go.ChangeShapes Go.WideShapes Go.ChangeAt Go.RowKit

set_option maxRecDepth 100000 in
set_option maxHeartbeats 2000000 in
theorem setr_yes (a b : Int) (g n cap : Nat) (x y : Int) (p0 p1 p2 p3 : Nat) (ha : In64 a) (hb : In64 b) (hn : n ≤ cap) (hc : cap ≤ maxLen) (w : World) (cur : Array Value) (hg : w.heap[g]? = some (.cells cur 28 (0, 0))) (hcur : n ≤ cur.size) (k : Nat) (hr : inB a b n x y = true) (hk : y * a + x = (k : Int)) (hk4 : 4 * k + 4 ≤ n) :
    Calls Try.prog 24 #[.agg #[.int .i64 a, .int .i64 b, .slice (some ⟨g, 0, none⟩) n cap], .int .i64 x, .int .i64 y, .agg #[.int .u16 (p0 : Nat), .int .u16 (p1 : Nat), .int .u16 (p2 : Nat), .int .u16 (p3 : Nat)]] w fun e w' =>
      e = .returned (.bool true) ∧ w.grownBy w' (some g) ∧ w'.heap[g]? = some (.cells (setCur cur k (pix4 p0 p1 p2 p3)) 28 (0, 0)) := by
  have hgl : g < w.heap.size := (Array.getElem?_eq_some_iff.1 hg).1
  obtain ⟨q0, q1, q2, q4⟩ := two_boxes w #[.int .i64 a, .int .i64 b, .slice (some ⟨g, 0, none⟩) n cap] #[.int .u16 (p0 : Nat), .int .u16 (p1 : Nat), .int .u16 (p2 : Nat), .int .u16 (p3 : Nat)] 26 48
  obtain ⟨hm, i1, i2, i3, i4⟩ := in_ok hr
  obtain ⟨s1, s2, s3, s4, s5⟩ := size_ok (may_ok hm).1
  obtain ⟨m0, m1⟩ := mul_bd y a 256 256 i3 (by omega) (by omega) s2
  have w1 : wrap64 (y * a) = y * a := IntWalk.wrap64_in _ (by omega)
  have w2' : wrap64 (y * a + x) = (k : Int) := (IntWalk.wrap64_in _ (by omega)).trans hk
  have v1 : IntKind.i64.wrap (y * a) = y * a := IntWalk.i64_in _ (by omega)
  have v2 : IntKind.i64.wrap (y * a + x) = (k : Int) := (IntWalk.i64_in _ (by omega)).trans hk
  have hk5 : (k : Int) ≤ 131072 := by omega
  have v3 : IntKind.i64.wrap (4 * (k : Int)) = 4 * (k : Int) := IntWalk.i64_in _ (by omega)
  have v4 : IntKind.i64.wrap (4 * (k : Int) + 4) = 4 * (k : Int) + 4 := IntWalk.i64_in _ (by omega)
  have HM := Lib.hid hm
  clear hm hr m0 m1 s1 s2 s3 s4 s5
  go_enter Try.func24, Try.ntmps24
  go_wp2_with fail
  refine (may_ref a b _ n cap ha hb hn hc _).mono ?_
  rintro e u1 ⟨rfl, hB⟩
  rw [HM.out]
  rw [q0] at hB
  have r0 := hp_below q1 hB (by omega)
  have r1 := hp_below q2 hB (by omega)
  have k0 := hp_cell (j := 0) r0 rfl
  have k1 := hp_cell (j := 1) r0 rfl
  have k2 := hp_cell (j := 2) r0 rfl
  have hB0 := q4.trans (hB.mono (by omega))
  have hg1 := hp_below hg hB0 hgl
  unfold maxLen at hc
  have hrun := run_copy_row (P := Try.prog) u1.drew 24 24 3 28 g (4 * k) 4 (cap - 4 * k) ⟨w.heap.size + 1, 0, none⟩ 4 4 cur _ (pix4 p0 p1 p2 p3) Try.underlying24 size38 hg1 (show 4 = Nat.min 4 4 from rfl)
    (by
      intro j v hj
      match j, hj with
      | 0, hj => exact (hp_cell (j := 0) r1 rfl).trans hj
      | 1, hj => exact (hp_cell (j := 1) r1 rfl).trans hj
      | 2, hj => exact (hp_cell (j := 2) r1 rfl).trans hj
      | 3, hj => exact (hp_cell (j := 3) r1 rfl).trans hj) (by simp [pix4]; omega) (by simp [pix4, Value.oneCell'])
  have hgr : w.grownBy (u1.drew.setRow g (setCur cur k (pix4 p0 p1 p2 p3))) (some g) := ((grown_of_below hB0 _).trans (grown_drewS _ _)).trans (grown_setRow _ _ _)
  have hgh : (u1.drew.setRow g (setCur cur k (pix4 p0 p1 p2 p3))).heap[g]? = some (.cells (setCur cur k (pix4 p0 p1 p2 p3)) 28 (0, 0)) := setRow_heap _ _ _ _ _ _ hg1
  have HG := Lib.hid hgr
  have HH := Lib.hid hgh
  have hl4 : (pix4 p0 p1 p2 p3).length = 4 := rfl
  change _ = Result.ok _ (u1.drew.setRow g (setCur cur k (pix4 p0 p1 p2 p3))) at hrun
  rw [hl4] at hrun
  have hck : ¬cap = 4 * k := by omega
  have hlI : (4 : Int) * (k : Int) + 4 ≤ (n : Int) := by omega
  have hlC : (4 : Int) * (k : Int) + 4 ≤ (cap : Int) := by omega
  have hkn : (0 : Int) ≤ (k : Int) := by omega
  clear hB hB0 q0 q1 q2 q4 r0 r1 hg hg1 hgr hgh hl4 hk
  go_wp2_with fail
  go_region
  go_wp2
  go_ret
  exact ⟨rfl, HG.out, HH.out⟩

set_option maxRecDepth 100000 in
set_option maxHeartbeats 2000000 in
theorem setr_no (a b : Int) (A : Option Addr) (n cap : Nat) (x y : Int) (p0 p1 p2 p3 : Nat) (ha : In64 a) (hb : In64 b) (hn : n ≤ cap) (hc : cap ≤ maxLen) (w : World) (hr : inB a b n x y = false) :
    Calls Try.prog 24 #[.agg #[.int .i64 a, .int .i64 b, .slice A n cap], .int .i64 x, .int .i64 y, .agg #[.int .u16 (p0 : Nat), .int .u16 (p1 : Nat), .int .u16 (p2 : Nat), .int .u16 (p3 : Nat)]] w fun e w' =>
      e = .returned (.bool false) ∧ Below w.heap.size w w' := by
  obtain ⟨q0, q1, q2, q4⟩ := two_boxes w #[.int .i64 a, .int .i64 b, .slice A n cap] #[.int .u16 (p0 : Nat), .int .u16 (p1 : Nat), .int .u16 (p2 : Nat), .int .u16 (p3 : Nat)] 26 48
  rcases in_cases a b n x y with hm | ⟨hm, h1⟩ | ⟨hm, h1, h2⟩ | ⟨hm, h1, h2, h3⟩ | ⟨hm, h1, h2, h3, h4⟩ | ⟨hm, h1, h2, h3, h4⟩
  case inr.inr.inr.inr.inr =>
    exfalso
    simp [inB, hm] at hr
    omega
  all_goals
    have HM := Lib.hid hm
    clear hr hm
    go_enter Try.func24, Try.ntmps24
    go_wp2_with fail
    refine (may_ref a b _ n cap ha hb hn hc _).mono ?_
    rintro e u1 ⟨rfl, hB⟩
    rw [HM.out]
    rw [q0] at hB
    have r0 := hp_below q1 hB (by omega)
    have k0 := hp_cell (j := 0) r0 rfl
    have k1 := hp_cell (j := 1) r0 rfl
    have k2 := hp_cell (j := 2) r0 rfl
    have HB := Lib.hid (q4.trans (hB.mono (by omega)))
    clear hB q0 q1 q2 q4 r0
    go_wp2
    go_ret
    exact ⟨rfl, HB.out⟩

/-! ### Set over a row of one's own -/
def setC (c : Nat → Nat) (k : Nat) (p : P4) (j : Nat) : Nat := if j = 4 * k then p.1 else if j = 4 * k + 1 then p.2.1 else if j = 4 * k + 2 then p.2.2.1 else if j = 4 * k + 3 then p.2.2.2 else c j
def setD (a b : Int) (n : Nat) (c : Nat → Nat) (x y : Int) (p : P4) : Nat → Nat := if inB a b n x y = true then setC c (y * a + x).toNat p else c
theorem setC_lt {c : Nat → Nat} (hc : ∀ i, c i < 65536) (k : Nat) {p : P4} (hp : w4 p) (i : Nat) : setC c k p i < 65536 := by
  obtain ⟨h1, h2, h3, h4⟩ := hp
  have := hc i
  unfold setC
  (repeat' split) <;> omega
theorem setD_lt {a b : Int} {n : Nat} {c : Nat → Nat} (hc : ∀ i, c i < 65536) (x y : Int) {p : P4} (hp : w4 p) (i : Nat) : setD a b n c x y p i < 65536 := by
  unfold setD
  split
  · exact setC_lt hc _ hp i
  · exact hc i
theorem setCur_own {n : Nat} {cur : Array Value} {c : Nat → Nat} (h : ∀ j, j < n → cur[j]? = some (.int .u16 (c j : Nat))) (hs : n ≤ cur.size) (k : Nat) (hk : 4 * k + 4 ≤ n) (p : P4) (j : Nat) (hj : j < n) :
    (setCur cur k (pix4 p.1 p.2.1 p.2.2.1 p.2.2.2))[j]? = some (.int .u16 (setC c k p j : Nat)) := by
  by_cases h1 : 4 * k ≤ j ∧ j < 4 * k + 4
  · obtain ⟨d, rfl⟩ := Nat.le.dest h1.1
    rw [setCur_in _ _ _ (by simp [pix4]; omega) _ (by simp [pix4]; omega)]
    obtain rfl | rfl | rfl | rfl : d = 0 ∨ d = 1 ∨ d = 2 ∨ d = 3 := by omega
    · simp [pix4, setC]
    · simp [pix4, setC]
    · simp [pix4, setC]
    · simp [pix4, setC]
  · rw [setCur_out _ _ _ (by simp [pix4]; omega) _ (by simp [pix4]; omega), h j hj]
    have : setC c k p j = c j := by unfold setC; rw [if_neg (by omega), if_neg (by omega), if_neg (by omega), if_neg (by omega)]
    rw [this]
/-- What a Set leaves. -/
def setPost (B : Nat) (a b : Int) (A : Option Addr) (n : Nat) (c : Nat → Nat) (x y : Int) (p : P4) (w : World) (e : Ending) (w' : World) : Prop :=
  e = .returned (.bool (inB a b n x y)) ∧ (B ≤ w.heap.size → Below B w w') ∧ (∀ g o, w.heap[g]? = some o → (∀ k, 0 < n → A = some ⟨k, 0, none⟩ → k ≠ g) → w'.heap[g]? = some o) ∧ Own B w' A n (setD a b n c x y p)
theorem set_any_of {a b : Int} {A : Option Addr} {n cap : Nat} {c : Nat → Nat} {x y : Int} {p : P4} {f : FuncId} {w : World} {B : Nat} (hO : Own B w A n c)
    (yes : ∀ (g : Nat) (cur : Array Value) (k : Nat), A = some ⟨g, 0, none⟩ → w.heap[g]? = some (.cells cur 28 (0, 0)) → n ≤ cur.size → inB a b n x y = true → y * a + x = (k : Int) → 4 * k + 4 ≤ n →
      Calls Try.prog f #[.agg #[.int .i64 a, .int .i64 b, .slice A n cap], .int .i64 x, .int .i64 y, .agg #[.int .u16 (p.1 : Nat), .int .u16 (p.2.1 : Nat), .int .u16 (p.2.2.1 : Nat), .int .u16 (p.2.2.2 : Nat)]] w fun e w' =>
        e = .returned (.bool true) ∧ w.grownBy w' (some g) ∧ w'.heap[g]? = some (.cells (setCur cur k (pix4 p.1 p.2.1 p.2.2.1 p.2.2.2)) 28 (0, 0)))
    (no : inB a b n x y = false → Calls Try.prog f #[.agg #[.int .i64 a, .int .i64 b, .slice A n cap], .int .i64 x, .int .i64 y, .agg #[.int .u16 (p.1 : Nat), .int .u16 (p.2.1 : Nat), .int .u16 (p.2.2.1 : Nat), .int .u16 (p.2.2.2 : Nat)]] w fun e w' =>
        e = .returned (.bool false) ∧ Below w.heap.size w w') :
    Calls Try.prog f #[.agg #[.int .i64 a, .int .i64 b, .slice A n cap], .int .i64 x, .int .i64 y, .agg #[.int .u16 (p.1 : Nat), .int .u16 (p.2.1 : Nat), .int .u16 (p.2.2.1 : Nat), .int .u16 (p.2.2.2 : Nat)]] w (setPost B a b A n c x y p w) := by
  cases hr : inB a b n x y with
  | true =>
    obtain ⟨k, hk, hk4, _⟩ := in_place hr
    obtain ⟨g, cur, rfl, hB, hg, hs, hcl⟩ := hO (by omega)
    refine (yes g cur k rfl hg hs hr hk hk4).mono ?_
    rintro e w' ⟨rfl, hgr, hg'⟩
    refine ⟨by rw [hr], fun h => (Below.refl _ _).grown hgr h (fun k e => by injection e with e; omega), fun k o hk2 hne => (hgr.block k (Array.getElem?_eq_some_iff.1 hk2).1 (fun e => by injection e with e; exact hne g (by omega) rfl e.symm)).trans hk2, fun hn => ⟨g, _, rfl, hB, hg', ?_, fun j hj => ?_⟩⟩
    · rw [setCur_size _ _ _ (by simp [pix4]; omega)]; exact hs
    · have e1 : setD a b n c x y p = setC c k p := by unfold setD; rw [if_pos hr, hk]; rfl
      rw [e1]
      exact setCur_own hcl hs k hk4 p j hj
  | false =>
    refine (no hr).mono ?_
    rintro e w' ⟨rfl, hb⟩
    refine ⟨by rw [hr], fun h => hb.mono h, fun k o hk2 _ => hp_below hk2 hb (Array.getElem?_eq_some_iff.1 hk2).1, ?_⟩
    have e1 : setD a b n c x y p = c := by unfold setD; rw [if_neg (by simp [hr])]
    rw [e1]
    exact hO.below hb
theorem setr_any (a b : Int) (A : Option Addr) (n cap : Nat) (c : Nat → Nat) (x y : Int) (p : P4) (ha : In64 a) (hb : In64 b) (hn : n ≤ cap) (hc : cap ≤ maxLen) (w : World) {B : Nat} (hO : Own B w A n c) :
    Calls Try.prog 24 #[.agg #[.int .i64 a, .int .i64 b, .slice A n cap], .int .i64 x, .int .i64 y, .agg #[.int .u16 (p.1 : Nat), .int .u16 (p.2.1 : Nat), .int .u16 (p.2.2.1 : Nat), .int .u16 (p.2.2.2 : Nat)]] w (setPost B a b A n c x y p w) := by
  refine set_any_of hO ?_ (fun h => setr_no a b A n cap x y p.1 p.2.1 p.2.2.1 p.2.2.2 ha hb hn hc w h)
  rintro g cur k rfl h1 h2 h3 h4 h5
  exact setr_yes a b g n cap x y p.1 p.2.1 p.2.2.1 p.2.2.2 ha hb hn hc w cur h1 h2 k h3 h4 h5
end Go.Proofs.Ythgafdbdmemkhaa
