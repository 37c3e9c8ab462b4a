/- engraverref8.At and Set; Set of both, over rows of one's own. Set of both, over rows of one's own. Worlds that turn in few blocks; rows of bytes; a file that is written (beside pictures). A picture of one's own: samples set one by one. engraverref14's small ones: low, signed, Run, masks, byMasks. Rows of bytes as strings. -/
import Derived.Test.YthgafdbdmemkhaaDoorM3
import Derived.WalkSpells
import Derived.Outline
import Derived.Lib.AppendZerosOnto
import Derived.Laws.BitsAllLaws
import Derived.IntWalk
import Derived.Laws.BytesArg
namespace Go.Proofs.YthgafdbdmemkhaaDoor
set_option maxRecDepth 100000
set_option linter.unusedVariables false
open Go.ChangeShapes Go.WideShapes Go.ChangeAt Go.RowKit

theorem in_cases (a b : Int) (n : Nat) (x y : Int) :
    (mayB a b n = false) ∨ (mayB a b n = true ∧ x < 0) ∨ (mayB a b n = true ∧ 0 ≤ x ∧ y < 0) ∨ (mayB a b n = true ∧ 0 ≤ x ∧ 0 ≤ y ∧ a ≤ x) ∨ (mayB a b n = true ∧ 0 ≤ x ∧ 0 ≤ y ∧ x < a ∧ b ≤ y) ∨ (mayB a b n = true ∧ 0 ≤ x ∧ 0 ≤ y ∧ x < a ∧ y < b) := by
  cases mayB a b n
  · exact .inl rfl
  · simp
    omega
/-- The three boxes of At. -/
theorem three_boxes (w : World) (cs c1 c2 : Array Value) (t t1 t2 : TypeId) : let W := ((w.alloc (.cells cs t)).alloc (.cells c1 t1)).alloc (.cells c2 t2)
    W.heap.size = w.heap.size + 3 ∧ W.heap[w.heap.size]? = some (.cells cs t (0, 0)) ∧ W.heap[w.heap.size + 1]? = some (.cells c1 t1 (0, 0)) ∧ W.heap[w.heap.size + 1 + 1]? = some (.cells c2 t2 (0, 0)) ∧ Below w.heap.size w W := by
  intro W
  have h1 := hp_new0 (w.alloc (.cells cs t)) (.cells c1 t1)
  have h2 := hp_new0 ((w.alloc (.cells cs t)).alloc (.cells c1 t1)) (.cells c2 t2)
  simp only [World.size_alloc] at h1 h2
  exact ⟨by simp [W, World.size_alloc], hp_alloc _ (hp_alloc _ (hp_new0 _ _)), hp_alloc _ h1, h2, (((Below.refl _ w).alloc (Nat.le_refl _) _).alloc (by simp) _).alloc (by simp; omega) _⟩

end Go.Proofs.YthgafdbdmemkhaaDoor

namespace Go.Proofs.YthgafdbdmemkhaaDoor
set_option maxRecDepth 100000
set_option linter.unusedVariables false
open Go.ChangeShapes Go.WideShapes Go.ChangeAt Go.RowKit

set_option maxRecDepth 100000 in
set_option maxHeartbeats 2000000 in
theorem setr_yes (a b : Int) (g n cap : Nat) (x y : Int) (p0 p1 p2 p3 : Nat) (ha : In64 a) (hb : In64 b) (hn : n ≤ cap) (hc : cap ≤ maxLen) (w : World) (cur : Array Value) (hg : w.heap[g]? = some (.cells cur 39 (0, 0))) (hcur : n ≤ cur.size) (k : Nat) (hr : inB a b n x y = true) (hk : y * a + x = (k : Int)) (hk4 : 4 * k + 4 ≤ n) :
    Calls Tryd.prog 26 #[.agg #[.int .i64 a, .int .i64 b, .slice (some ⟨g, 0, none⟩) n cap], .int .i64 x, .int .i64 y, .agg #[.int .u16 (p0 : Nat), .int .u16 (p1 : Nat), .int .u16 (p2 : Nat), .int .u16 (p3 : Nat)]] w fun e w' =>
      e = .returned (.bool true) ∧ w.grownBy w' (some g) ∧ w'.heap[g]? = some (.cells (setCur cur k (pix4 p0 p1 p2 p3)) 39 (0, 0)) := by
  have hgl : g < w.heap.size := (Array.getElem?_eq_some_iff.1 hg).1
  obtain ⟨q0, q1, q2, q4⟩ := two_boxes w #[.int .i64 a, .int .i64 b, .slice (some ⟨g, 0, none⟩) n cap] #[.int .u16 (p0 : Nat), .int .u16 (p1 : Nat), .int .u16 (p2 : Nat), .int .u16 (p3 : Nat)] 24 45
  obtain ⟨hm, i1, i2, i3, i4⟩ := in_ok hr
  obtain ⟨s1, s2, s3, s4, s5⟩ := size_ok (may_ok hm).1
  obtain ⟨m0, m1⟩ := mul_bd y a 256 256 i3 (by omega) (by omega) s2
  have w1 : wrap64 (y * a) = y * a := IntWalk.wrap64_in _ (by omega)
  have w2' : wrap64 (y * a + x) = (k : Int) := (IntWalk.wrap64_in _ (by omega)).trans hk
  have v1 : IntKind.i64.wrap (y * a) = y * a := IntWalk.i64_in _ (by omega)
  have v2 : IntKind.i64.wrap (y * a + x) = (k : Int) := (IntWalk.i64_in _ (by omega)).trans hk
  have hk5 : (k : Int) ≤ 131072 := by omega
  have v3 : IntKind.i64.wrap (4 * (k : Int)) = 4 * (k : Int) := IntWalk.i64_in _ (by omega)
  have v4 : IntKind.i64.wrap (4 * (k : Int) + 4) = 4 * (k : Int) + 4 := IntWalk.i64_in _ (by omega)
  have HM := Lib.hid hm
  clear hm hr m0 m1 s1 s2 s3 s4 s5
  go_enter Tryd.func26, Tryd.ntmps26
  go_wp2_with fail
  refine (may_ref a b _ n cap ha hb hn hc _).mono ?_
  rintro e u1 ⟨rfl, hB⟩
  rw [HM.out]
  rw [q0] at hB
  have r0 := hp_below q1 hB (by omega)
  have r1 := hp_below q2 hB (by omega)
  have k0 := hp_cell (j := 0) r0 rfl
  have k1 := hp_cell (j := 1) r0 rfl
  have k2 := hp_cell (j := 2) r0 rfl
  have hB0 := q4.trans (hB.mono (by omega))
  have hg1 := hp_below hg hB0 hgl
  unfold maxLen at hc
  have hrun := run_copy_row (P := Tryd.prog) u1.drew 22 22 3 39 g (4 * k) 4 (cap - 4 * k) ⟨w.heap.size + 1, 0, none⟩ 4 4 cur _ (pix4 p0 p1 p2 p3) Tryd.underlying22 size38 hg1 (show 4 = Nat.min 4 4 from rfl)
    (by
      intro j v hj
      match j, hj with
      | 0, hj => exact (hp_cell (j := 0) r1 rfl).trans hj
      | 1, hj => exact (hp_cell (j := 1) r1 rfl).trans hj
      | 2, hj => exact (hp_cell (j := 2) r1 rfl).trans hj
      | 3, hj => exact (hp_cell (j := 3) r1 rfl).trans hj) (by simp [pix4]; omega) (by simp [pix4, Value.oneCell'])
  have hgr : w.grownBy (u1.drew.setRow g (setCur cur k (pix4 p0 p1 p2 p3))) (some g) := ((grown_of_below hB0 _).trans (grown_drewS _ _)).trans (grown_setRow _ _ _)
  have hgh : (u1.drew.setRow g (setCur cur k (pix4 p0 p1 p2 p3))).heap[g]? = some (.cells (setCur cur k (pix4 p0 p1 p2 p3)) 39 (0, 0)) := setRow_heap _ _ _ _ _ _ hg1
  have HG := Lib.hid hgr
  have HH := Lib.hid hgh
  have hl4 : (pix4 p0 p1 p2 p3).length = 4 := rfl
  change _ = Result.ok _ (u1.drew.setRow g (setCur cur k (pix4 p0 p1 p2 p3))) at hrun
  rw [hl4] at hrun
  have hck : ¬cap = 4 * k := by omega
  have hlI : (4 : Int) * (k : Int) + 4 ≤ (n : Int) := by omega
  have hlC : (4 : Int) * (k : Int) + 4 ≤ (cap : Int) := by omega
  have hkn : (0 : Int) ≤ (k : Int) := by omega
  clear hB hB0 q0 q1 q2 q4 r0 r1 hg hg1 hgr hgh hl4 hk
  go_wp2_with fail
  go_region
  go_wp2
  go_ret
  exact ⟨rfl, HG.out, HH.out⟩

set_option maxRecDepth 100000 in
set_option maxHeartbeats 2000000 in
theorem setr_no (a b : Int) (A : Option Addr) (n cap : Nat) (x y : Int) (p0 p1 p2 p3 : Nat) (ha : In64 a) (hb : In64 b) (hn : n ≤ cap) (hc : cap ≤ maxLen) (w : World) (hr : inB a b n x y = false) :
    Calls Tryd.prog 26 #[.agg #[.int .i64 a, .int .i64 b, .slice A n cap], .int .i64 x, .int .i64 y, .agg #[.int .u16 (p0 : Nat), .int .u16 (p1 : Nat), .int .u16 (p2 : Nat), .int .u16 (p3 : Nat)]] w fun e w' =>
      e = .returned (.bool false) ∧ Below w.heap.size w w' := by
  obtain ⟨q0, q1, q2, q4⟩ := two_boxes w #[.int .i64 a, .int .i64 b, .slice A n cap] #[.int .u16 (p0 : Nat), .int .u16 (p1 : Nat), .int .u16 (p2 : Nat), .int .u16 (p3 : Nat)] 24 45
  rcases in_cases a b n x y with hm | ⟨hm, h1⟩ | ⟨hm, h1, h2⟩ | ⟨hm, h1, h2, h3⟩ | ⟨hm, h1, h2, h3, h4⟩ | ⟨hm, h1, h2, h3, h4⟩
  case inr.inr.inr.inr.inr =>
    exfalso
    simp [inB, hm] at hr
    omega
  all_goals
    have HM := Lib.hid hm
    clear hr hm
    go_enter Tryd.func26, Tryd.ntmps26
    go_wp2_with fail
    refine (may_ref a b _ n cap ha hb hn hc _).mono ?_
    rintro e u1 ⟨rfl, hB⟩
    rw [HM.out]
    rw [q0] at hB
    have r0 := hp_below q1 hB (by omega)
    have k0 := hp_cell (j := 0) r0 rfl
    have k1 := hp_cell (j := 1) r0 rfl
    have k2 := hp_cell (j := 2) r0 rfl
    have HB := Lib.hid (q4.trans (hB.mono (by omega)))
    clear hB q0 q1 q2 q4 r0
    go_wp2
    go_ret
    exact ⟨rfl, HB.out⟩

/-! ### Set over a row of one's own -/
def setC (c : Nat → Nat) (k : Nat) (p : P4) (j : Nat) : Nat := if j = 4 * k then p.1 else if j = 4 * k + 1 then p.2.1 else if j = 4 * k + 2 then p.2.2.1 else if j = 4 * k + 3 then p.2.2.2 else c j
def setD (a b : Int) (n : Nat) (c : Nat → Nat) (x y : Int) (p : P4) : Nat → Nat := if inB a b n x y = true then setC c (y * a + x).toNat p else c
theorem setC_lt {c : Nat → Nat} (hc : ∀ i, c i < 65536) (k : Nat) {p : P4} (hp : w4 p) (i : Nat) : setC c k p i < 65536 := by
  obtain ⟨h1, h2, h3, h4⟩ := hp
  have := hc i
  unfold setC
  (repeat' split) <;> omega
theorem setD_lt {a b : Int} {n : Nat} {c : Nat → Nat} (hc : ∀ i, c i < 65536) (x y : Int) {p : P4} (hp : w4 p) (i : Nat) : setD a b n c x y p i < 65536 := by
  unfold setD
  split
  · exact setC_lt hc _ hp i
  · exact hc i
theorem setCur_own {n : Nat} {cur : Array Value} {c : Nat → Nat} (h : ∀ j, j < n → cur[j]? = some (.int .u16 (c j : Nat))) (hs : n ≤ cur.size) (k : Nat) (hk : 4 * k + 4 ≤ n) (p : P4) (j : Nat) (hj : j < n) :
    (setCur cur k (pix4 p.1 p.2.1 p.2.2.1 p.2.2.2))[j]? = some (.int .u16 (setC c k p j : Nat)) := by
  by_cases h1 : 4 * k ≤ j ∧ j < 4 * k + 4
  · obtain ⟨d, rfl⟩ := Nat.le.dest h1.1
    rw [setCur_in _ _ _ (by simp [pix4]; omega) _ (by simp [pix4]; omega)]
    obtain rfl | rfl | rfl | rfl : d = 0 ∨ d = 1 ∨ d = 2 ∨ d = 3 := by omega
    · simp [pix4, setC]
    · simp [pix4, setC]
    · simp [pix4, setC]
    · simp [pix4, setC]
  · rw [setCur_out _ _ _ (by simp [pix4]; omega) _ (by simp [pix4]; omega), h j hj]
    have : setC c k p j = c j := by unfold setC; rw [if_neg (by omega), if_neg (by omega), if_neg (by omega), if_neg (by omega)]
    rw [this]
/-- What a Set leaves. -/
def setPost (B : Nat) (a b : Int) (A : Option Addr) (n : Nat) (c : Nat → Nat) (x y : Int) (p : P4) (w : World) (e : Ending) (w' : World) : Prop :=
  e = .returned (.bool (inB a b n x y)) ∧ (B ≤ w.heap.size → Below B w w') ∧ (∀ g o, w.heap[g]? = some o → (∀ k, 0 < n → A = some ⟨k, 0, none⟩ → k ≠ g) → w'.heap[g]? = some o) ∧ Own B w' A n (setD a b n c x y p)
theorem set_any_of {a b : Int} {A : Option Addr} {n cap : Nat} {c : Nat → Nat} {x y : Int} {p : P4} {f : FuncId} {w : World} {B : Nat} (hO : Own B w A n c)
    (yes : ∀ (g : Nat) (cur : Array Value) (k : Nat), A = some ⟨g, 0, none⟩ → w.heap[g]? = some (.cells cur 39 (0, 0)) → n ≤ cur.size → inB a b n x y = true → y * a + x = (k : Int) → 4 * k + 4 ≤ n →
      Calls Tryd.prog f #[.agg #[.int .i64 a, .int .i64 b, .slice A n cap], .int .i64 x, .int .i64 y, .agg #[.int .u16 (p.1 : Nat), .int .u16 (p.2.1 : Nat), .int .u16 (p.2.2.1 : Nat), .int .u16 (p.2.2.2 : Nat)]] w fun e w' =>
        e = .returned (.bool true) ∧ w.grownBy w' (some g) ∧ w'.heap[g]? = some (.cells (setCur cur k (pix4 p.1 p.2.1 p.2.2.1 p.2.2.2)) 39 (0, 0)))
    (no : inB a b n x y = false → Calls Tryd.prog f #[.agg #[.int .i64 a, .int .i64 b, .slice A n cap], .int .i64 x, .int .i64 y, .agg #[.int .u16 (p.1 : Nat), .int .u16 (p.2.1 : Nat), .int .u16 (p.2.2.1 : Nat), .int .u16 (p.2.2.2 : Nat)]] w fun e w' =>
        e = .returned (.bool false) ∧ Below w.heap.size w w') :
    Calls Tryd.prog f #[.agg #[.int .i64 a, .int .i64 b, .slice A n cap], .int .i64 x, .int .i64 y, .agg #[.int .u16 (p.1 : Nat), .int .u16 (p.2.1 : Nat), .int .u16 (p.2.2.1 : Nat), .int .u16 (p.2.2.2 : Nat)]] w (setPost B a b A n c x y p w) := by
  cases hr : inB a b n x y with
  | true =>
    obtain ⟨k, hk, hk4, _⟩ := in_place hr
    obtain ⟨g, cur, rfl, hB, hg, hs, hcl⟩ := hO (by omega)
    refine (yes g cur k rfl hg hs hr hk hk4).mono ?_
    rintro e w' ⟨rfl, hgr, hg'⟩
    refine ⟨by rw [hr], fun h => (Below.refl _ _).grown hgr h (fun k e => by injection e with e; omega), fun k o hk2 hne => (hgr.block k (Array.getElem?_eq_some_iff.1 hk2).1 (fun e => by injection e with e; exact hne g (by omega) rfl e.symm)).trans hk2, fun hn => ⟨g, _, rfl, hB, hg', ?_, fun j hj => ?_⟩⟩
    · rw [setCur_size _ _ _ (by simp [pix4]; omega)]; exact hs
    · have e1 : setD a b n c x y p = setC c k p := by unfold setD; rw [if_pos hr, hk]; rfl
      rw [e1]
      exact setCur_own hcl hs k hk4 p j hj
  | false =>
    refine (no hr).mono ?_
    rintro e w' ⟨rfl, hb⟩
    refine ⟨by rw [hr], fun h => hb.mono h, fun k o hk2 _ => hp_below hk2 hb (Array.getElem?_eq_some_iff.1 hk2).1, ?_⟩
    have e1 : setD a b n c x y p = c := by unfold setD; rw [if_neg (by simp [hr])]
    rw [e1]
    exact hO.below hb
theorem set_any (a b : Int) (A : Option Addr) (n cap : Nat) (c : Nat → Nat) (x y : Int) (p : P4) (ha : In64 a) (hb : In64 b) (hn : n ≤ cap) (hc : cap ≤ maxLen) (w : World) {B : Nat} (hO : Own B w A n c) :
    Calls Tryd.prog 60 #[.agg #[.int .i64 a, .int .i64 b, .slice A n cap], .int .i64 x, .int .i64 y, .agg #[.int .u16 (p.1 : Nat), .int .u16 (p.2.1 : Nat), .int .u16 (p.2.2.1 : Nat), .int .u16 (p.2.2.2 : Nat)]] w (setPost B a b A n c x y p w) := by
  refine set_any_of hO ?_ (fun h => set_no a b A n cap x y p.1 p.2.1 p.2.2.1 p.2.2.2 ha hb hn hc w h)
  rintro g cur k rfl h1 h2 h3 h4 h5
  exact set_prog a b g n cap x y p.1 p.2.1 p.2.2.1 p.2.2.2 ha hb hn hc w cur h1 h2 k h3 h4 h5
theorem setr_any (a b : Int) (A : Option Addr) (n cap : Nat) (c : Nat → Nat) (x y : Int) (p : P4) (ha : In64 a) (hb : In64 b) (hn : n ≤ cap) (hc : cap ≤ maxLen) (w : World) {B : Nat} (hO : Own B w A n c) :
    Calls Tryd.prog 26 #[.agg #[.int .i64 a, .int .i64 b, .slice A n cap], .int .i64 x, .int .i64 y, .agg #[.int .u16 (p.1 : Nat), .int .u16 (p.2.1 : Nat), .int .u16 (p.2.2.1 : Nat), .int .u16 (p.2.2.2 : Nat)]] w (setPost B a b A n c x y p w) := by
  refine set_any_of hO ?_ (fun h => setr_no a b A n cap x y p.1 p.2.1 p.2.2.1 p.2.2.2 ha hb hn hc w h)
  rintro g cur k rfl h1 h2 h3 h4 h5
  exact setr_yes a b g n cap x y p.1 p.2.1 p.2.2.1 p.2.2.2 ha hb hn hc w cur h1 h2 k h3 h4 h5
end Go.Proofs.YthgafdbdmemkhaaDoor

namespace Go.Proofs.YthgafdbdmemkhaaDoor
set_option maxRecDepth 100000
set_option linter.unusedVariables false
open Go.ChangeShapes Go.WideShapes Go.ChangeAt Go.RowKit

/-- What lay in w lies in w', but for the blocks S. -/
structure Chg (S : List Nat) (w w' : World) : Prop where
  os : w'.os = w.os
  tape : w'.tape = w.tape
  output : w'.output = w.output
  size : w.heap.size ≤ w'.heap.size
  block : ∀ k, k < w.heap.size → k ∉ S → w'.heap[k]? = w.heap[k]?
section
variable {S : List Nat} {w w' w'' : World}
theorem Chg.refl (S : List Nat) (w : World) : Chg S w w := ⟨rfl, rfl, rfl, Nat.le_refl _, fun _ _ _ => rfl⟩
theorem Chg.trans (h : Chg S w w') (k : Chg S w' w'') : Chg S w w'' :=
  ⟨k.os.trans h.os, k.tape.trans h.tape, k.output.trans h.output, Nat.le_trans h.size k.size, fun i hi hs => (k.block i (Nat.lt_of_lt_of_le hi h.size) hs).trans (h.block i hi hs)⟩
theorem Chg.mono {T : List Nat} (h : Chg S w w') (hs : ∀ k ∈ S, k ∈ T) : Chg T w w' := ⟨h.os, h.tape, h.output, h.size, fun i hi hn => h.block i hi (fun hm => hn (hs i hm))⟩
theorem Chg.of_below (h : Below w.heap.size w w') : Chg S w w' := ⟨h.os, h.tape, h.output, h.size, fun i hi _ => h.block i hi⟩
theorem Chg.below {B : Nat} (h : Chg S w w') (hB : B ≤ w.heap.size) (hs : ∀ k ∈ S, B ≤ k) : Below B w w' :=
  ⟨h.os, h.tape, h.output, h.size, fun i hi => h.block i (by omega) (fun hm => by have := hs i hm; omega)⟩
theorem Chg.drew (h : Chg S w w') : Chg S w w'.drew := ⟨h.os, h.tape, h.output, h.size, h.block⟩
theorem Chg.drewN (h : Chg S w w') (n : Nat) : Chg S w (w'.drewN n) := ⟨h.os, h.tape, h.output, h.size, h.block⟩
theorem Chg.alloc (h : Chg S w w') (o : Obj) : Chg S w (w'.alloc o) :=
  h.trans (Chg.of_below ((Below.refl _ w').alloc (Nat.le_refl _) o))
theorem Chg.set (h : Chg S w w') {g : Nat} (hg : g ∈ S ∨ w.heap.size ≤ g) (i : Nat) (v : Value) : Chg S w (w'.setCell ⟨g, i, none⟩ v) := by
  refine ⟨h.os, h.tape, h.output, by simpa [World.setCell] using h.size, fun k hk hn => ?_⟩
  have hne : k ≠ g := by
    rintro rfl
    rcases hg with hg | hg
    · exact hn hg
    · omega
  exact (Below.heap_setCell w' _ v k hne).trans (h.block k hk hn)
theorem Chg.grown {row : Option Nat} (h : w.grownBy w' row) (hr : ∀ r, row = some r → r ∈ S) : Chg S w w' :=
  ⟨h.os, h.tape, h.output, h.size, fun k hk hn => h.block k hk (fun e => hn (hr k e.symm))⟩
end
theorem lt_heap {W : World} {k : Nat} {o : Obj} (h : W.heap[k]? = some o) : k < W.heap.size := (Array.getElem?_eq_some_iff.1 h).1
theorem hp_chg {S : List Nat} {B : Nat} {W W' : World} {o : Obj} (h : W.heap[B]? = some o) (hb : Chg S W W') (hn : B ∉ S) : W'.heap[B]? = some o := (hb.block B (lt_heap h) hn).trans h
theorem hp_froz {W : World} {B : Nat} {cs : Array Value} {t : TypeId} (h : W.heap[B]? = some (.cells cs t (0, 0))) (j : Nat) : W.frozen? ⟨B, j, none⟩ = false := by simp [World.frozen?, h]
theorem heap_set {W : World} {b i : Nat} {x : Value} {cs : Array Value} {t : TypeId} (h : W.heap[b]? = some (.cells cs t (0, 0))) : (W.setCell ⟨b, i, none⟩ x).heap[b]? = some (.cells (cs.setIfInBounds i x) t (0, 0)) := by
  have hl := (Array.getElem?_eq_some_iff.1 h).1
  have he := (Array.getElem?_eq_some_iff.1 h).2
  unfold World.setCell
  simp [hl, he, Array.getElem_modify]
theorem hp_oth {W : World} {B g i : Nat} {v : Value} {o : Obj} (h : W.heap[B]? = some o) (hne : ¬B = g) : (W.setCell ⟨g, i, none⟩ v).heap[B]? = some o := (Below.heap_setCell W _ v B hne).trans h
theorem hp_newk {w : World} {o : Obj} {k : Nat} (hk : w.heap.size = k) : (w.alloc o).heap[k]? = some o := hk ▸ hp_new0 w o
theorem hp_drew {W : World} {b : Nat} {o : Option Obj} (h : W.heap[b]? = o) : W.drew.heap[b]? = o := h
def Byt (w : World) (A : Option Addr) (m : Nat) (d : Nat → Nat) : Prop :=
  0 < m → ∃ bk off, A = some ⟨bk, off, none⟩ ∧ bk < w.heap.size ∧ ∀ j, j < m → w.cell? ⟨bk, off + j, none⟩ = some (.int .u8 (d j : Nat))
theorem Byt.below {w w' : World} {A : Option Addr} {n : Nat} {c : Nat → Nat} (h : Byt w A n c) (hb : Below w.heap.size w w') : Byt w' A n c := fun hn => by
  obtain ⟨bk, off, rfl, hlt, hc⟩ := h hn
  exact ⟨bk, off, rfl, Nat.lt_of_lt_of_le hlt hb.size, fun j hj => (hb.cell (p := ⟨bk, off + j, none⟩) hlt).trans (hc j hj)⟩
def Off (A : Option Addr) (S : List Nat) : Prop := ∀ a, A = some a → a.block ∉ S
theorem Byt.chg {S : List Nat} {w w' : World} {A : Option Addr} {n : Nat} {c : Nat → Nat} (h : Byt w A n c) (hb : Chg S w w') (ho : 0 < n → Off A S) : Byt w' A n c := fun hn => by
  obtain ⟨bk, off, rfl, hlt, hc⟩ := h hn
  refine ⟨bk, off, rfl, Nat.lt_of_lt_of_le hlt hb.size, fun j hj => ?_⟩
  have h1 := hc j hj
  have h2 := hb.block bk hlt (ho hn _ rfl)
  simp only [World.cell?] at h1 ⊢
  rw [h2]
  exact h1
def cellsB (o : List Nat) : List Value := o.map fun k => .int .u8 ((k : Nat) : Int)
theorem cellsB_len (o : List Nat) : (cellsB o).length = o.length := by simp [cellsB]
def Near (g : Nat) (ob : Option Nat) : List Nat := g :: ob.toList
def Next (ob ob' : Option Nat) (w : World) : Prop := ob' = ob ∨ ∃ k, ob' = some k ∧ w.heap.size ≤ k
theorem near_grown {g : Nat} {ob : Option Nat} {w w' : World} (h : w.grownBy w' ob) : Chg (Near g ob) w w' := Chg.grown h (fun r e => by subst e; simp [Near])
theorem near_set {g : Nat} {ob : Option Nat} (w : World) (i : Nat) (v : Value) : Chg (Near g ob) w (w.setCell ⟨g, i, none⟩ v) := (Chg.refl _ w).set (.inl (by simp [Near])) i v
theorem cellsB_snoc (o : List Nat) (x : Nat) : cellsB (o ++ [x]) = cellsB o ++ [.int .u8 ((x : Nat) : Int)] := by simp [cellsB]
theorem own_apart' {w : World} {base : Nat} {e : TypeId} {size k : Nat} {x : Value} {xs : List Value} (h : w.ownsRow base e size x k xs) {r : Nat} (hr : r < base) : x.ownBlock = none ∨ x.ownBlock ≠ some r := by
  cases hx : x.ownBlock with
  | none => exact .inl rfl
  | some g =>
    refine .inr fun e => ?_
    injection e with e
    have := (h.lt g hx).1
    omega
theorem Chg.trans2 {S T : List Nat} {w w' w'' : World} (h : Chg S w w') (k : Chg T w' w'') (hT : ∀ x ∈ T, x ∈ S ∨ w.heap.size ≤ x) : Chg S w w'' :=
  ⟨k.os.trans h.os, k.tape.trans h.tape, k.output.trans h.output, Nat.le_trans h.size k.size, fun i hi hs => (k.block i (Nat.lt_of_lt_of_le hi h.size) (fun hm => by rcases hT i hm with h1 | h1; exact hs h1; omega)).trans (h.block i hi hs)⟩
theorem Next.near {g : Nat} {ob ob' : Option Nat} {w : World} (h : Next ob ob' w) : ∀ x ∈ Near g ob', x ∈ Near g ob ∨ w.heap.size ≤ x := fun x hx => by
  rcases h with rfl | ⟨k, rfl, hk⟩
  · exact .inl hx
  · simp [Near] at hx ⊢
    rcases hx with rfl | rfl
    · exact .inl (.inl rfl)
    · exact .inr hk
theorem Next.trans {ob ob' ob'' : Option Nat} {w w' : World} (h : Next ob ob' w) (k : Next ob' ob'' w') (hs : w.heap.size ≤ w'.heap.size) : Next ob ob'' w := by
  rcases k with rfl | ⟨q, rfl, hq⟩
  · exact h
  · exact .inr ⟨q, rfl, by omega⟩
theorem own_chg {w w' : World} {S : List Nat} {base size n : Nat} {e : TypeId} {v : Value} {xs : List Value} (h : w.ownsRow base e size v n xs) (hc : Chg S w w') (hS : ∀ k, v.ownBlock = some k → k ∉ S) : w'.ownsRow base e size v n xs := by
  obtain ⟨hl, hf⟩ := h
  refine ⟨hl, ?_⟩
  rcases hf with h0 | ⟨g, cap, cur, rfl, hB, hg, hnc, hcm, hcs, ht⟩
  · exact .inl h0
  · exact .inr ⟨g, cap, cur, rfl, hB, hp_chg hg hc (hS g rfl), hnc, hcm, hcs, ht⟩
theorem info_parts {P : Program} {t : TypeId} {z : Option Value} {s b : Nat} (h : (P.info? t).map (fun i => (i.zero, i.size, i.bytes)) = some (z, s, b)) : ∃ i, P.info? t = some i ∧ i.zero = z ∧ i.size = s ∧ i.bytes = b := by
  obtain ⟨i, hi, he⟩ := Option.map_eq_some_iff.1 h
  cases he
  exact ⟨i, hi, rfl, rfl, rfl⟩
theorem info8 : (Tryd.prog.info? 5).map (fun i => (i.zero, i.size, i.bytes)) = some (some (.int .u8 0), 1, 1) := by kernel_rfl
theorem near_mem {g k : Nat} {ob : Option Nat} : k ∈ Near g ob ↔ k = g ∨ ob = some k := by
  cases ob <;> simp [Near, eq_comm]
end Go.Proofs.YthgafdbdmemkhaaDoor

namespace Go.Proofs.YthgafdbdmemkhaaDoor
set_option maxRecDepth 100000
set_option linter.unusedVariables false
open Go.ChangeShapes Go.WideShapes Go.ChangeAt Go.RowKit

def up1 (c : Nat → Nat) (k v j : Nat) : Nat := if j = k then v else c j
theorem own_put {B : Nat} {w : World} {g n : Nat} {c : Nat → Nat} (h : Own B w (some ⟨g, 0, none⟩) n c) (i v : Nat) : Own B (w.setCell ⟨g, i, none⟩ (.int .u16 (v : Nat))) (some ⟨g, 0, none⟩) n (up1 c i v) := fun hn => by
  obtain ⟨g', cur, he, hB, hg, hs, hc⟩ := h hn
  cases he
  refine ⟨g, _, rfl, hB, heap_set hg, by simpa using hs, fun j hj => ?_⟩
  rw [Array.getElem?_setIfInBounds]
  by_cases hE : i = j
  · subst hE
    rw [if_pos rfl, if_pos (by omega)]
    simp [up1]
  · rw [if_neg hE, hc j hj]
    simp [up1, Ne.symm hE]
theorem own_cellP {B : Nat} {w : World} {g n : Nat} {c : Nat → Nat} (h : Own B w (some ⟨g, 0, none⟩) n c) {i : Nat} (hi : i < n) : w.cell? ⟨g, i, none⟩ = some (.int .u16 (c i : Nat)) ∧ w.frozen? ⟨g, i, none⟩ = false ∧ B ≤ g ∧ g < w.heap.size := by
  obtain ⟨g', cur, he, hB, hg, hs, hc⟩ := h (by omega)
  cases he
  exact ⟨hp_cell hg (hc i hi), hp_froz hg i, hB, lt_heap hg⟩
end Go.Proofs.YthgafdbdmemkhaaDoor

namespace Go.Proofs.YthgafdbdmemkhaaDoor
set_option maxRecDepth 100000
set_option linter.unusedVariables false
open Go.ChangeShapes Go.WideShapes Go.ChangeAt Go.RowKit

theorem i64_or_nat (a b : Nat) (ha : a < 9223372036854775808) (hb : b < 9223372036854775808) : bits .or .i64 (a : Int) (b : Int) = ((a ||| b : Nat) : Int) := by
  have hx : a ||| b < 2 ^ 63 := Nat.or_lt_two_pow (by omega) (by omega)
  show IntKind.i64.wrap ((BitVec.ofInt 64 (a : Int) ||| BitVec.ofInt 64 (b : Int)).toNat : Int) = _
  rw [BitVec.toNat_or, ofInt_u64 a (by omega), ofInt_u64 b (by omega)]
  exact IntWalk.i64_in _ (by omega)
theorem i64_and_nat (a b : Nat) (ha : a < 9223372036854775808) (hb : b < 9223372036854775808) : bits .and .i64 (a : Int) (b : Int) = ((a &&& b : Nat) : Int) := by
  have hx : a &&& b < 2 ^ 63 := Nat.and_lt_two_pow _ (by omega)
  show IntKind.i64.wrap ((BitVec.ofInt 64 (a : Int) &&& BitVec.ofInt 64 (b : Int)).toNat : Int) = _
  rw [BitVec.toNat_and, ofInt_u64 a (by omega), ofInt_u64 b (by omega)]
  exact IntWalk.i64_in _ (by omega)
/-- A number of so many bytes from a place on, the lowest first. -/
def lowD (d : Nat → Nat) : Nat → Nat → Nat
  | _, 0 => 0
  | p, k + 1 => d p + 256 * lowD d (p + 1) k
theorem lowD_lt {d : Nat → Nat} (hd : ∀ j, d j < 256) (p k : Nat) : lowD d p k < 256 ^ k := by
  induction k generalizing p with
  | zero => simp [lowD]
  | succ k ih =>
    have h1 := hd p
    have h2 := ih (p + 1)
    simp only [lowD, Nat.pow_succ]
    omega
theorem lowD_4 {d : Nat → Nat} (hd : ∀ j, d j < 256) (p k : Nat) (hk : k ≤ 4) : lowD d p k < 4294967296 := by
  have h := lowD_lt hd p k
  have h2 : 256 ^ k ≤ 256 ^ 4 := Nat.pow_le_pow_right (by omega) hk
  omega
theorem or_byte (x y : Nat) (hy : y < 256) : x * 256 ||| y = y + 256 * x := by
  have h := Nat.shiftLeft_add_eq_or_of_lt (i := 8) (show y < 2 ^ 8 by omega) x
  rw [Nat.shiftLeft_eq] at h
  have e : (2 : Nat) ^ 8 = 256 := rfl
  rw [e] at h
  rw [← h]
  omega
set_option maxRecDepth 100000 in
set_option maxHeartbeats 1000000 in
theorem low_ref (A : Option Addr) (m cap : Nat) (d : Nat → Nat) (hd : ∀ j, d j < 256) (p n : Nat) (hn : n ≤ 4) (hp : p + n ≤ m) (hm : m ≤ cap) (hcap : cap ≤ maxLen) (w : World) (hB : Byt w A m d) :
    Calls Tryd.prog 24 #[.slice A m cap, .int .i64 p, .int .i64 n] w fun e w' => e = .returned (.int .i64 (lowD d p n : Nat)) ∧ w' = w := by
  unfold maxLen at hcap
  have HD := Lib.hid hd
  clear hd
  go_enter Tryd.func24, Tryd.ntmps24
  go_wp2_with fail
  go_loopw [7, 8] (fun x i wr => ∃ k : Nat, k ≤ n ∧ i = .int .i64 ((n : Int) - 1 - (k : Int)) ∧ x = .int .i64 (lowD d (p + n - k) k : Nat) ∧ wr = w) (fun _ i _ => (intOf i + 1).toNat)
  case atStart => exact ⟨0, by omega, by simp, rfl, rfl⟩
  case round =>
    obtain ⟨k, hk, rfl, rfl, rfl⟩ := hrel
    by_cases hlt : k < n
    · obtain ⟨bk, off, rfl, hbl, hcl⟩ := hB (by omega)
      obtain ⟨i, hi⟩ : ∃ i, i = n - 1 - k := ⟨_, rfl⟩
      have e1 : (n : Int) - 1 - (k : Int) = (i : Int) := by omega
      obtain ⟨q, hq⟩ : ∃ q, q = p + i := ⟨_, rfl⟩
      have e2 : (p : Int) + (i : Int) = (q : Int) := by omega
      have c0 := hcl q (by omega)
      obtain ⟨x, hx⟩ : ∃ x, x = lowD d (p + n - k) k := ⟨_, rfl⟩
      have hx4 : x < 256 ^ k := by rw [hx]; exact lowD_lt HD.out _ _
      have hx5 : 256 ^ k ≤ 256 ^ 3 := Nat.pow_le_pow_right (by omega) (by omega)
      have hd8 := HD.out q
      have e3 : lowD d (p + n - (k + 1)) (k + 1) = d q + 256 * x := by
        rw [show p + n - (k + 1) = q by omega, lowD, show q + 1 = p + n - k by omega, ← hx]
      have e4 := i64_or_nat (x * 256) (d q) (by omega) (by omega)
      rw [or_byte x (d q) hd8, show ((x * 256 : Nat) : Int) = (x : Int) * 256 by simp] at e4
      have hqm : q < m := by omega
      have HX := Lib.hid e3
      rw [e1, ← hx]
      have HE := Lib.hid e1
      have e5 : wrap64 ((x : Int) * 256) = (x : Int) * 256 := IntWalk.wrap64_in _ (by omega)
      clear hx hx4 hx5 hi hq e3
      go_wp2_with fail
      go_roundw
      case rel => exact ⟨k + 1, hlt, by have := HE.out; congr 1; omega, by rw [HX.out]; exact congrArg (Value.int .i64) (by omega), trivial⟩
      case measure => simp [intOf]
    · have HK := Lib.hid (show k = n by omega)
      have hneg : ¬ (0 : Int) ≤ (n : Int) - 1 - (k : Int) := by omega
      go_wp2_with fail
      go_ret
      exact ⟨by rw [HK.out, Nat.add_sub_cancel]; rfl, rfl⟩

/-- A number of four bytes, signed. -/
def sgnV (x : Nat) : Int := if x < 2147483648 then (x : Int) else (x : Int) - 4294967296
theorem signed_ref (A : Option Addr) (m cap : Nat) (d : Nat → Nat) (hd : ∀ j, d j < 256) (p : Nat) (hp : p + 4 ≤ m) (hm : m ≤ cap) (hcap : cap ≤ maxLen) (w : World) (hB : Byt w A m d) :
    Calls Tryd.prog 35 #[.slice A m cap, .int .i64 p] w fun e w' => e = .returned (.int .i64 (sgnV (lowD d p 4))) ∧ w' = w := by
  have h4 := lowD_4 hd p 4 (by omega)
  go_enter Tryd.func35, Tryd.ntmps35
  go_wp2_with fail
  refine (low_ref A m cap d hd p 4 (by omega) hp hm hcap _ hB).mono ?_
  rintro e _ ⟨rfl, rfl⟩
  obtain ⟨x, hx⟩ : ∃ x, x = lowD d p 4 := ⟨_, rfl⟩
  have e2 : wrap64 (wrap32 ((lowD d p 4 : Nat) : Int)) = sgnV (lowD d p 4) := by
    rw [← hx]
    rw [← hx] at h4
    unfold wrap32 sgnV
    rw [IntWalk.wrap64_in _ (by omega)]
    split <;> omega
  rw [← hx] at h4
  have e1 : IntKind.u32.wrap ((lowD d p 4 : Nat) : Int) = ((lowD d p 4 : Nat) : Int) := IntWalk.u32_in _ (by omega)
  go_wp2_with fail
  go_ret
  exact ⟨by rw [← e2]; rfl, rfl⟩
set_option maxRecDepth 100000 in
/-- How often 2 divides it; what is left. -/
def evZ : Nat → Nat → Nat × Nat
  | 0, m => (0, m)
  | k + 1, m => if m % 2 = 0 then ((evZ k (m / 2)).1 + 1, (evZ k (m / 2)).2) else (0, m)
/-- How many ones it ends in; what is left. -/
def onZ : Nat → Nat → Nat × Nat
  | 0, m => (0, m)
  | k + 1, m => if m % 2 = 1 then ((onZ k (m / 2)).1 + 1, (onZ k (m / 2)).2) else (0, m)
theorem evZ_ev {m : Nat} (k : Nat) (h : m % 2 = 0) : evZ (k + 1) m = ((evZ k (m / 2)).1 + 1, (evZ k (m / 2)).2) := by rw [evZ, if_pos h]
theorem evZ_od {m : Nat} (k : Nat) (h : ¬m % 2 = 0) : evZ k m = (0, m) := by
  cases k with
  | zero => rfl
  | succ k => rw [evZ, if_neg h]
theorem onZ_od {m : Nat} (k : Nat) (h : m % 2 = 1) : onZ (k + 1) m = ((onZ k (m / 2)).1 + 1, (onZ k (m / 2)).2) := by rw [onZ, if_pos h]
theorem onZ_ev {m : Nat} (k : Nat) (h : ¬m % 2 = 1) : onZ k m = (0, m) := by
  cases k with
  | zero => rfl
  | succ k => rw [onZ, if_neg h]
def runM (m : Nat) : Nat × Nat × Bool :=
  if m = 0 then (0, 0, false) else if (onZ 32 (evZ 32 m).2).2 = 0 then ((evZ 32 m).1, (onZ 32 (evZ 32 m).2).1, true) else (0, 0, false)
set_option maxHeartbeats 1000000 in
theorem run_ref (m : Nat) (hm : m < 4294967296) (w : World) :
    Calls Tryd.prog 37 #[.int .u32 m] w fun e w' => e = .returned (.tuple #[.int .i64 ((runM m).1 : Nat), .int .i64 ((runM m).2.1 : Nat), .bool (runM m).2.2]) ∧ w' = w := by
  by_cases h0 : m = 0
  · subst h0
    go_enter Tryd.func37, Tryd.ntmps37
    go_wp2_with fail
    go_ret3
    exact ⟨rfl, rfl⟩
  · go_enter Tryd.func37, Tryd.ntmps37
    go_wp2_with fail
    go_loopw [0, 5] (fun xs a wr => ∃ k x : Nat, k ≤ 32 ∧ xs = .int .u32 (x : Nat) ∧ a = .int .i64 (k : Nat) ∧ x ≠ 0 ∧ x < 2 ^ (32 - k) ∧ evZ 32 m = (k + (evZ (32 - k) x).1, (evZ (32 - k) x).2) ∧ wr = w) (fun xs _ _ => (intOf xs).toNat)
    case atStart => exact ⟨0, m, by omega, rfl, rfl, h0, by simpa using hm, by simp, rfl⟩
    case round =>
      obtain ⟨k, x, hk, rfl, rfl, hx0, hxl, hev, rfl⟩ := hrel
      have hpw : 2 ^ (32 - k) ≤ 2 ^ 32 := Nat.pow_le_pow_right (by omega) (by omega)
      have ea : bits .and .u32 (x : Int) 1 = ((x % 2 : Nat) : Int) := by
        have := u32_and_nat x 1 (by omega) (by omega)
        rwa [nat_mask1] at this
      by_cases hp : x % 2 = 0
      · have hk1 : k < 31 := by
          rcases Nat.lt_or_ge k 31 with h | h
          · exact h
          · have h2 : 2 ^ (32 - k) ≤ 2 ^ 1 := Nat.pow_le_pow_right (by omega) (by omega)
            omega
        obtain ⟨j, hj⟩ : ∃ j, 32 - k = j + 1 := ⟨31 - k, by omega⟩
        have hj2 : 32 - (k + 1) = j := by omega
        rw [hj, evZ_ev j hp] at hev
        rw [hj, Nat.pow_succ] at hxl
        have HEV := Lib.hid hev
        have HXL := Lib.hid hxl
        have hx2 : x / 2 ≠ 0 := by omega
        clear hev hpw hxl
        rw [hp] at ea
        go_wp2_with fail
        go_roundw
        case rel => exact ⟨k + 1, x / 2, by omega, by simp, by simp, hx2, by have := HXL.out; rw [hj2]; omega, by rw [HEV.out, hj2, Nat.add_assoc, Nat.add_comm 1], trivial⟩
        case measure => simp [intOf]; omega
      · have he2 : evZ 32 m = (k, x) := by
          rw [hev, evZ_od _ hp]
          rfl
        have HE := Lib.hid he2
        have hp1 : x % 2 = 1 := by omega
        have hx32 : x < 4294967296 := by omega
        rw [hp1] at ea
        clear hev hpw hxl he2
        go_wp2_with fail
        go_loopw [0, 6] (fun xs a wr2 => ∃ n z : Nat, n ≤ 32 ∧ xs = .int .u32 (z : Nat) ∧ a = .int .i64 (n : Nat) ∧ z < 2 ^ (32 - n) ∧ onZ 32 x = (n + (onZ (32 - n) z).1, (onZ (32 - n) z).2) ∧ wr2 = wr) (fun xs _ _ => (intOf xs).toNat)
        case atStart => exact ⟨0, x, by omega, rfl, rfl, by simpa using hx32, by simp, rfl⟩
        case round =>
          obtain ⟨n, z, hn, rfl, rfl, hzl, hon, rfl⟩ := hrel
          have hpw : 2 ^ (32 - n) ≤ 2 ^ 32 := Nat.pow_le_pow_right (by omega) (by omega)
          have eb : bits .and .u32 (z : Int) 1 = ((z % 2 : Nat) : Int) := by
            have := u32_and_nat z 1 (by omega) (by omega)
            rwa [nat_mask1] at this
          by_cases hq : z % 2 = 1
          · have hn1 : n < 32 := by
              rcases Nat.lt_or_ge n 32 with h | h
              · exact h
              · have h2 : 2 ^ (32 - n) ≤ 2 ^ 0 := Nat.pow_le_pow_right (by omega) (by omega)
                omega
            obtain ⟨j, hj⟩ : ∃ j, 32 - n = j + 1 := ⟨31 - n, by omega⟩
            have hj2 : 32 - (n + 1) = j := by omega
            rw [hj, onZ_od j hq] at hon
            rw [hj, Nat.pow_succ] at hzl
            have HON := Lib.hid hon
            have HZL := Lib.hid hzl
            clear hon hpw hzl
            rw [hq] at eb
            go_wp2_with fail
            go_roundw
            case rel => exact ⟨n + 1, z / 2, by omega, by simp, by simp, by have := HZL.out; rw [hj2]; omega, by rw [HON.out, hj2, Nat.add_assoc, Nat.add_comm 1], trivial⟩
            case measure => simp [intOf]; omega
          · have hq0 : z % 2 = 0 := by omega
            have hfin : runM m = if z = 0 then (k, n, true) else (0, 0, false) := by
              rw [runM, if_neg h0, HE.out, hon, onZ_ev _ hq]
              rfl
            rw [hq0] at eb
            by_cases hz : z = 0
            · rw [if_pos hz] at hfin
              have HFI := Lib.hid hfin
              subst hz
              clear hfin hon hpw hzl
              go_wp2_with fail
              go_ret3
              rw [HFI.out]
              exact ⟨rfl, rfl⟩
            · rw [if_neg hz] at hfin
              have HFI := Lib.hid hfin
              clear hfin hon hpw hzl
              go_wp2_with fail
              go_ret3
              rw [HFI.out]
              exact ⟨rfl, rfl⟩

def seenF (f : Nat → Nat) : Nat → Nat
  | 0 => 0
  | i + 1 => seenF f i ||| f i
def msOk (f : Nat → Nat) (b i : Nat) : Bool :=
  (decide (f i = 0) && decide (i = 3)) || ((runM (f i)).2.2 && decide ((runM (f i)).2.1 ≤ 8) && decide (f i &&& seenF f i = 0) && decide ((runM (f i)).1 + (runM (f i)).2.1 ≤ b))
/-- Do masks go? -/
def masksB (f : Nat → Nat) (b : Nat) : Bool := (List.range 4).all (msOk f b)
theorem seenF_lt {f : Nat → Nat} (hf : ∀ i, f i < 4294967296) (i : Nat) : seenF f i < 4294967296 := by
  induction i with
  | zero => simp [seenF]
  | succ i ih => exact Nat.or_lt_two_pow (n := 32) ih (hf i)
theorem evZ_le (k m : Nat) : (evZ k m).1 ≤ k := by
  induction k generalizing m with
  | zero => simp [evZ]
  | succ k ih =>
    rw [evZ]
    split
    · have := ih (m / 2)
      simp only
      omega
    · simp
theorem onZ_le (k m : Nat) : (onZ k m).1 ≤ k := by
  induction k generalizing m with
  | zero => simp [onZ]
  | succ k ih =>
    rw [onZ]
    split
    · have := ih (m / 2)
      simp only
      omega
    · simp
theorem runM_le (m : Nat) : (runM m).1 ≤ 32 ∧ (runM m).2.1 ≤ 32 := by
  have h1 := evZ_le 32 m
  have h2 := onZ_le 32 (evZ 32 m).2
  rw [runM]
  split
  · simp
  · split
    · exact ⟨h1, h2⟩
    · simp
theorem masksB_f {f : Nat → Nat} {b i : Nat} (hi : i < 4) (h : msOk f b i = false) : masksB f b = false := by
  rw [← Bool.not_eq_true, masksB, List.all_eq_true]
  intro h2
  have := h2 i (List.mem_range.2 hi)
  rw [h] at this
  cases this
set_option maxHeartbeats 2000000 in
theorem masks_ref (f : Nat → Nat) (hf : ∀ i, f i < 4294967296) (b : Nat) (hb : b < 1000) (w : World) :
    Calls Tryd.prog 36 #[.agg #[.int .u32 (f 0 : Nat), .int .u32 (f 1 : Nat), .int .u32 (f 2 : Nat), .int .u32 (f 3 : Nat)], .int .i64 b] w fun e w' => e = .returned (.bool (masksB f b)) ∧ Below w.heap.size w w' := by
  have HB := Lib.hid ((Below.refl _ w).alloc (Nat.le_refl _) (.cells #[.int .u32 (f 0 : Nat), .int .u32 (f 1 : Nat), .int .u32 (f 2 : Nat), .int .u32 (f 3 : Nat)] 55))
  have HF := Lib.hid hf
  have HBX := Lib.hid (hp_new0 w (.cells #[.int .u32 (f 0 : Nat), .int .u32 (f 1 : Nat), .int .u32 (f 2 : Nat), .int .u32 (f 3 : Nat)] 55))
  clear hf
  go_enter Tryd.func36, Tryd.ntmps36
  go_wp2_with fail
  generalize w.alloc (.cells #[.int .u32 (f 0 : Nat), .int .u32 (f 1 : Nat), .int .u32 (f 2 : Nat), .int .u32 (f 3 : Nat)] 55) = W0 at *
  go_loopw [5, 6] (fun s x wr => ∃ i : Nat, i ≤ 4 ∧ x = .int .i64 (i : Nat) ∧ s = .int .u32 (seenF f i : Nat) ∧ (∀ j, j < i → msOk f b j = true) ∧ wr = W0) (fun _ x _ => 4 - (intOf x).toNat)
  case atStart => exact ⟨0, by omega, rfl, rfl, fun j h => absurd h (by omega), rfl⟩
  case round =>
    obtain ⟨i, hi4, rfl, rfl, hall, rfl⟩ := hrel
    have HA := Lib.hid hall
    clear hall
    by_cases hlt : i < 4
    · have hcf : (#[Value.int .u32 (f 0 : Nat), .int .u32 (f 1 : Nat), .int .u32 (f 2 : Nat), .int .u32 (f 3 : Nat)] : Array Value)[i]? = some (.int .u32 (f i : Nat)) := by
        have h : i = 0 ∨ i = 1 ∨ i = 2 ∨ i = 3 := by omega
        rcases h with rfl | rfl | rfl | rfl <;> rfl
      have c0 := hp_cell HBX.out hcf
      have hx32 := HF.out i
      have hs32 := seenF_lt HF.out i
      obtain ⟨x, hx⟩ : ∃ x, x = f i := ⟨_, rfl⟩
      have hsn : seenF f (i + 1) = seenF f i ||| x := by rw [seenF, hx]
      have hor := u32_or_nat (seenF f i) x hs32 (by omega)
      rw [← hsn] at hor
      have hms : msOk f b i = ((decide (x = 0) && decide (i = 3)) || ((runM x).2.2 && decide ((runM x).2.1 ≤ 8) && decide (x &&& seenF f i = 0) && decide ((runM x).1 + (runM x).2.1 ≤ b))) := by rw [msOk, ← hx]
      rw [← hx] at c0 hx32
      have hand := u32_and_nat x (seenF f i) hx32 hs32
      obtain ⟨an, han⟩ : ∃ an, an = x &&& seenF f i := ⟨_, rfl⟩
      rw [← han] at hand hms
      obtain ⟨sn, hsn2⟩ : ∃ sn, sn = seenF f i := ⟨_, rfl⟩
      rw [← hsn2] at hand hor ⊢
      have HMS := Lib.hid hms
      have HSN := Lib.hid hsn
      have HSE := Lib.hid hsn2.symm
      clear hcf hx hms hsn han hsn2 hs32
      by_cases hz : x = 0 ∧ i = 3
      · obtain ⟨rfl, h3⟩ := hz
        have HI3 := Lib.hid h3
        have hi3 : ((i : Int) == 3) = true := by rw [h3]; rfl
        have HSN2 : Hid (seenF f (i + 1) = sn) := Lib.hid (by rw [HSN.out, Nat.or_zero, HSE.out])
        have HAL := Lib.hid (all_snoc (p := fun j => msOk f b j = true) HA.out (by show msOk f b i = true; rw [HMS.out, h3]; rfl))
        clear h3 hor hand
        go_wp2_with fail
        go_roundw
        case rel => exact ⟨i + 1, hlt, by go_num, by rw [HSN2.out], HAL.out, trivial⟩
        case measure => simp [intOf]; omega
      · have hz2 : (((x : Int) == 0) = false) ∨ (((x : Int) == 0) = true ∧ ((i : Int) == 3) = false) := by
          by_cases h : x = 0
          · exact .inr ⟨by rw [h]; rfl, beq_eq_false_iff_ne.2 (fun e => hz ⟨h, by omega⟩)⟩
          · exact .inl (beq_eq_false_iff_ne.2 (by omega))
        have hmz : (decide (x = 0) && decide (i = 3)) = false := by simpa using hz
        rw [hmz, Bool.false_or] at HMS
        clear hmz hz
        rcases hz2 with h0 | ⟨h0, h3⟩
        all_goals
          go_wp2_with fail
          refine (run_ref x hx32 _).mono ?_
          rintro e _ ⟨rfl, rfl⟩
          obtain ⟨r, hr⟩ : ∃ r, r = runM x := ⟨_, rfl⟩
          have hrl := runM_le x
          rw [← hr] at hrl HMS ⊢
          obtain ⟨at_, n, ok⟩ := r
          simp only at hrl HMS ⊢
          clear hr
          cases ok with
          | false =>
            have HMF := Lib.hid (masksB_f hlt HMS.out)
            clear hor hand
            go_wp2_with fail
            go_ret
            exact ⟨ret_b HMF.out.symm, HB.out⟩
          | true =>
            by_cases hn8 : n ≤ 8
            · have hn8b : decide (8 < (n : Int)) = false := by simp; omega
              by_cases ha0 : an = 0
              · subst ha0
                by_cases hbb : at_ + n ≤ b
                · have hbb2 : decide ((b : Int) < (at_ : Int) + (n : Int)) = false := by simp; omega
                  have HAL := Lib.hid (all_snoc (p := fun j => msOk f b j = true) HA.out (by show msOk f b i = true; rw [HMS.out]; simp [hn8, hbb]))
                  go_wp2_with fail
                  go_roundw
                  case rel => exact ⟨i + 1, hlt, by go_num, rfl, HAL.out, trivial⟩
                  case measure => simp [intOf]; omega
                · have HMF := Lib.hid (masksB_f hlt (HMS.out.trans (by simp [hbb])))
                  have hbb2 : decide ((b : Int) < (at_ : Int) + (n : Int)) = true := by simp; omega
                  clear hor
                  go_wp2_with fail
                  go_ret
                  exact ⟨ret_b HMF.out.symm, HB.out⟩
              · have HMF := Lib.hid (masksB_f hlt (HMS.out.trans (by simp [ha0])))
                have ha1 : ((an : Int) == 0) = false := beq_eq_false_iff_ne.2 (by omega)
                clear hor
                go_wp2_with fail
                go_ret
                exact ⟨ret_b HMF.out.symm, HB.out⟩
            · have HMF := Lib.hid (masksB_f hlt (HMS.out.trans (by simp [hn8])))
              have hn8b : decide (8 < (n : Int)) = true := by simp; omega
              clear hor hand
              go_wp2_with fail
              go_ret
              exact ⟨ret_b HMF.out.symm, HB.out⟩
    · have HMT : Hid (masksB f b = true) := Lib.hid (by rw [masksB, List.all_eq_true]; exact fun j hj => HA.out j (by have := List.mem_range.1 hj; omega))
      go_wp2_with fail
      go_ret
      exact ⟨ret_b HMT.out.symm, HB.out⟩

/-- A sample of a number by its mask. -/
def bmF (f : Nat → Nat) (v j : Nat) : Int :=
  if (runM (f j)).2.2 then maskV ((v / 2 ^ (runM (f j)).1 % 2 ^ (runM (f j)).2.1 : Nat) : Int) ((runM (f j)).2.1 : Nat) else if j = 3 then 65535 else 0
def bmQ (f : Nat → Nat) (v i j : Nat) : Int := if j < i then bmF f v j else if j = 3 then 65535 else 0
def bmC (f : Nat → Nat) (v i : Nat) : Array Value := #[.int .u16 (bmQ f v i 0), .int .u16 (bmQ f v i 1), .int .u16 (bmQ f v i 2), .int .u16 (bmQ f v i 3)]
theorem bmC_succ (f : Nat → Nat) (v i : Nat) (hi : i < 4) : (bmC f v i).setIfInBounds i (.int .u16 (bmF f v i)) = bmC f v (i + 1) := by
  have h : i = 0 ∨ i = 1 ∨ i = 2 ∨ i = 3 := by omega
  rcases h with rfl | rfl | rfl | rfl <;> simp [bmC, bmQ]
theorem bmC_same (f : Nat → Nat) (v i : Nat) (hi : i < 4) (h0 : (runM (f i)).2.2 = false) : bmC f v i = bmC f v (i + 1) := by
  have h : i = 0 ∨ i = 1 ∨ i = 2 ∨ i = 3 := by omega
  rcases h with rfl | rfl | rfl | rfl <;> simp [bmC, bmQ, bmF, h0]
def bmV (f : Nat → Nat) (v : Nat) : Value := .agg #[.int .u16 (bmF f v 0), .int .u16 (bmF f v 1), .int .u16 (bmF f v 2), .int .u16 (bmF f v 3)]
set_option maxRecDepth 100000 in
set_option maxHeartbeats 2000000 in
theorem byMasks_ref (f : Nat → Nat) (hf : ∀ i, f i < 4294967296) (v : Nat) (hv : v < 4294967296) (w : World) :
    Calls Tryd.prog 23 #[.int .u32 v, .agg #[.int .u32 (f 0 : Nat), .int .u32 (f 1 : Nat), .int .u32 (f 2 : Nat), .int .u32 (f 3 : Nat)]] w fun e w' => e = .returned (bmV f v) ∧ Below w.heap.size w w' := by
  have HB := Lib.hid ((((Below.refl _ w).alloc (Nat.le_refl _) (.cells #[.int .u32 (f 0 : Nat), .int .u32 (f 1 : Nat), .int .u32 (f 2 : Nat), .int .u32 (f 3 : Nat)] 55)).alloc (by simp) (.cells #[.int .u16 0, .int .u16 0, .int .u16 0, .int .u16 0] 45)).alloc (by simp; omega) (.cells #[.int .u16 0, .int .u16 0, .int .u16 0, .int .u16 65535] 45))
  have HF := Lib.hid hf
  have HM := Lib.hid (hp_alloc (.cells #[.int .u16 0, .int .u16 0, .int .u16 0, .int .u16 65535] 45) (hp_alloc (.cells #[.int .u16 0, .int .u16 0, .int .u16 0, .int .u16 0] 45) (hp_new0 w (.cells #[.int .u32 (f 0 : Nat), .int .u32 (f 1 : Nat), .int .u32 (f 2 : Nat), .int .u32 (f 3 : Nat)] 55))))
  have HR := Lib.hid (hp_alloc (.cells #[.int .u16 0, .int .u16 0, .int .u16 0, .int .u16 65535] 45) (hp_newk (o := (.cells #[.int .u16 0, .int .u16 0, .int .u16 0, .int .u16 0] 45)) (World.size_alloc w (.cells #[.int .u32 (f 0 : Nat), .int .u32 (f 1 : Nat), .int .u32 (f 2 : Nat), .int .u32 (f 3 : Nat)] 55))))
  have HP : Hid ((((w.alloc (.cells #[.int .u32 (f 0 : Nat), .int .u32 (f 1 : Nat), .int .u32 (f 2 : Nat), .int .u32 (f 3 : Nat)] 55)).alloc (.cells #[.int .u16 0, .int .u16 0, .int .u16 0, .int .u16 0] 45)).alloc (.cells #[.int .u16 0, .int .u16 0, .int .u16 0, .int .u16 65535] 45)).heap[w.heap.size + 1 + 1]? = some (.cells (bmC f v 0) 45 (0, 0))) := Lib.hid (hp_newk (o := (.cells #[.int .u16 0, .int .u16 0, .int .u16 0, .int .u16 65535] 45)) (by simp))
  clear hf
  go_enter Tryd.func23, Tryd.ntmps23
  go_wp2_with fail
  generalize (((w.alloc (.cells #[.int .u32 (f 0 : Nat), .int .u32 (f 1 : Nat), .int .u32 (f 2 : Nat), .int .u32 (f 3 : Nat)] 55)).alloc (.cells #[.int .u16 0, .int .u16 0, .int .u16 0, .int .u16 0] 45)).alloc (.cells #[.int .u16 0, .int .u16 0, .int .u16 0, .int .u16 65535] 45)) = W0 at *
  go_loopw [6] (fun x wr => ∃ i : Nat, i ≤ 4 ∧ x = .int .i64 (i : Nat) ∧ Below w.heap.size w wr ∧ wr.heap[w.heap.size]? = some (.cells #[.int .u32 (f 0 : Nat), .int .u32 (f 1 : Nat), .int .u32 (f 2 : Nat), .int .u32 (f 3 : Nat)] 55 (0, 0)) ∧ wr.heap[w.heap.size + 1]? = some (.cells #[.int .u16 0, .int .u16 0, .int .u16 0, .int .u16 0] 45 (0, 0)) ∧ wr.heap[w.heap.size + 1 + 1]? = some (.cells (bmC f v i) 45 (0, 0))) (fun x _ => 4 - (intOf x).toNat)
  case atStart => exact ⟨0, by omega, rfl, HB.out, HM.out, HR.out, HP.out⟩
  case round =>
    obtain ⟨i, hi4, rfl, hB, hM, hR, hP⟩ := hrel
    by_cases hlt : i < 4
    · have hcf : (#[Value.int .u32 (f 0 : Nat), .int .u32 (f 1 : Nat), .int .u32 (f 2 : Nat), .int .u32 (f 3 : Nat)] : Array Value)[i]? = some (.int .u32 (f i : Nat)) := by
        have h : i = 0 ∨ i = 1 ∨ i = 2 ∨ i = 3 := by omega
        rcases h with rfl | rfl | rfl | rfl <;> rfl
      have c0 := hp_cell hM hcf
      have hx32 := HF.out i
      have hps : i < (bmC f v i).size := by simp [bmC]; omega
      obtain ⟨ov, cp⟩ : ∃ ov, wr.cell? ⟨w.heap.size + 1 + 1, i, none⟩ = some ov := ⟨_, hp_cell hP (Array.getElem?_eq_getElem hps)⟩
      have fp := hp_froz hP i
      obtain ⟨r, hr⟩ : ∃ r, r = runM (f i) := ⟨_, rfl⟩
      have hrl := runM_le (f i)
      have hbm : bmF f v i = if r.2.2 then maskV ((v / 2 ^ r.1 % 2 ^ r.2.1 : Nat) : Int) (r.2.1 : Nat) else if i = 3 then 65535 else 0 := by rw [bmF, ← hr]
      have hsame := bmC_same f v i hlt
      have HS := Lib.hid (bmC_succ f v i hlt)
      have HB2 := Lib.hid hB
      have HM2 := Lib.hid hM
      have HR2 := Lib.hid hR
      have HP2 := Lib.hid hP
      have HRR := Lib.hid hr
      rw [← hr] at hsame hrl
      clear hcf hr hB hM hR hP hps HB HM HR HP
      go_wp2_with fail
      refine (run_ref (f i) hx32 _).mono ?_
      rintro e _ ⟨rfl, rfl⟩
      rw [← HRR.out]
      obtain ⟨at_, n, ok⟩ := r
      simp only at hrl hbm hsame ⊢
      cases ok with
      | false =>
        have HSA := Lib.hid (hsame rfl)
        clear hsame hbm cp fp
        go_wp2_with fail
        go_roundw
        case rel => exact ⟨i + 1, hlt, by go_num, HB2.out, HM2.out, HR2.out, HSA.out ▸ HP2.out⟩
        case measure => simp [intOf]; omega
      | true =>
        simp only [if_true] at hbm
        have HBM := Lib.hid hbm
        have hcv : (v : Int) / 2 ^ at_ = ((v / 2 ^ at_ : Nat) : Int) := by simp
        obtain ⟨y, hy⟩ : ∃ y, y = v / 2 ^ at_ := ⟨_, rfl⟩
        have hy32 : y < 4294967296 := by rw [hy]; exact Nat.lt_of_le_of_lt (Nat.div_le_self _ _) hv
        rw [← hy] at hcv HBM
        have h2n : 2 ^ n ≤ 2 ^ 32 := Nat.pow_le_pow_right (by omega) (by omega)
        have h2p : 0 < 2 ^ n := Nat.pow_pos (by omega)
        have hand := i64_and_nat y (2 ^ n - 1) (by omega) (by omega)
        rw [Nat.and_two_pow_sub_one_eq_mod, show ((2 ^ n - 1 : Nat) : Int) = 2 ^ n - 1 by rw [Int.ofNat_sub h2p]; simp] at hand
        have hw1 : wrap64 (wrap64 (2 ^ n) - 1) = 2 ^ n - 1 := by
          have e : (2 : Int) ^ n = ((2 ^ n : Nat) : Int) := by simp
          rw [e, IntWalk.wrap64_in ((2 ^ n : Nat) : Int) (by omega), IntWalk.wrap64_in _ (by omega)]
        rw [← hw1] at hand
        have hyn : y % 2 ^ n ≤ y := Nat.mod_le _ _
        have HAND := Lib.hid hand
        clear hsame hbm hy h2n h2p hw1 hand
        go_wp2_with fail
        rw [HAND.out]
        refine (mask12 _ _ (by omega) (by omega) _).mono ?_
        rintro e _ ⟨rfl, rfl⟩
        rw [← HBM.out]
        go_wp2_with fail
        go_roundw
        case rel => exact ⟨i + 1, hlt, by go_num, HB2.out.setCell (p := ⟨w.heap.size + 1 + 1, i, none⟩) (by simp; omega) _, hp_oth HM2.out (by omega), hp_oth HR2.out (by omega), HS.out ▸ heap_set HP2.out⟩
        case measure => simp [intOf]; omega
    · have hi : i = 4 := by omega
      rw [hi] at hP
      have p0 : wr.cell? ⟨w.heap.size + 1 + 1, 0, none⟩ = some (.int .u16 (bmF f v 0)) := hp_cell (j := 0) hP rfl
      have p1 : wr.cell? ⟨w.heap.size + 1 + 1, 1, none⟩ = some (.int .u16 (bmF f v 1)) := hp_cell (j := 1) hP rfl
      have p2 : wr.cell? ⟨w.heap.size + 1 + 1, 2, none⟩ = some (.int .u16 (bmF f v 2)) := hp_cell (j := 2) hP rfl
      have p3 : wr.cell? ⟨w.heap.size + 1 + 1, 3, none⟩ = some (.int .u16 (bmF f v 3)) := hp_cell (j := 3) hP rfl
      have z0 := hp_cell (j := 0) hR rfl
      have z1 := hp_cell (j := 1) hR rfl
      have z2 := hp_cell (j := 2) hR rfl
      have z3 := hp_cell (j := 3) hR rfl
      have zf := hp_froz hR
      have HB2 := Lib.hid hB
      clear hB hM hR hP hi HB HM HR HP
      go_wp2_with fail
      refine bodyPost_ret (v := bmV f v) (by rw [results_cell1 rfl]; unfold bmV; go_simp) rfl ?_
      refine ⟨rfl, ?_⟩
      exact ((((HB2.out).setCell (p := ⟨w.heap.size + 1, 0, none⟩) (by simp) _).setCell (p := ⟨w.heap.size + 1, 1, none⟩) (by simp) _).setCell (p := ⟨w.heap.size + 1, 2, none⟩) (by simp) _).setCell (p := ⟨w.heap.size + 1, 3, none⟩) (by simp) _
end Go.Proofs.YthgafdbdmemkhaaDoor

namespace Go.Proofs.YthgafdbdmemkhaaDoor
set_option maxRecDepth 100000
set_option linter.unusedVariables false
open Go.ChangeShapes Go.WideShapes Go.ChangeAt Go.RowKit

def strB (m : Nat) (d : Nat → Nat) : ByteArray := strOfNums ((List.range m).map fun i => ((d i : Nat) : Int))
theorem ba_beq (s : ByteArray) : (s == s) = true := by
  cases s with | mk d =>
  show (d == d) = true
  exact beq_iff_eq.2 rfl
theorem strB_congr {m : Nat} {d d' : Nat → Nat} (h : ∀ i, i < m → d i = d' i) : strB m d = strB m d' := by
  unfold strB
  congr 1
  apply List.map_congr_left
  intro i hi
  rw [h i (by simpa using hi)]
theorem run_str {w : World} {A : Option Addr} {m cap : Nat} {d : Nat → Nat} (h : Byt w A m d) :
    (convert 26 9 (.slice A m cap)).run Tryd.prog w = .ok (.string (strB m d)) w := by
  by_cases hm : 0 < m
  · obtain ⟨bk, off, rfl, _, hc⟩ := h hm
    exact run_convert_bytes_arg w 26 5 Tryd.underlying26 Tryd.underlying5 bk off m cap ((List.range m).map fun i => ((d i : Nat) : Int)) (by simp)
      (fun i hi => by rw [hc i hi]; simp [List.getD_eq_getElem?_getD, hi]) 9 Tryd.underlying9
  · obtain rfl : m = 0 := by omega
    cases A with
    | none => exact run_convert_bytes_nil w 26 5 Tryd.underlying26 Tryd.underlying5 0 cap 9 Tryd.underlying9
    | some a =>
      rw [run_convert_bytes_string w 26 9 5 _ 0 cap Tryd.underlying26 Tryd.underlying5 Tryd.underlying9]
      exact run_bytesToString w a 0 cap [] (run_loadCells_list (P := Tryd.prog) w a [] (fun j v hj => by simp at hj))
end Go.Proofs.YthgafdbdmemkhaaDoor
