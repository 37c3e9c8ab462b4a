/- Set of both, over rows of one's own. Worlds that turn in few blocks; rows of bytes; a file that is written (beside pictures). engraverref14's small ones: low, signed, Run, masks, byMasks. Rows of bytes as strings. bits.Guard, by the closure's contract; worlds that turn in few blocks. Worlds that turn in few blocks; rows of bytes; a reader of bits lies in memory. The runs of the bit operations on numbers that are not below 0. Bits taken from a reader, from either end. The reference's reader of bits. -/
import Derived.Test.YtkjlejkcedemlaaM3
import Derived.WalkSpells
import Derived.Outline
import Derived.Lib.AppendZerosOnto
import Derived.Laws.BitsAllLaws
import Derived.IntWalk
import Derived.Laws.BytesArg
import Derived.Test.YtkjlejkcedemlaaProg
import Derived.Defers
import Derived.Recover
import Derived.WalkLawsBesides
import Derived.Test.YtkjlejkcedemlaaRows
import Derived.WalkKit
import Derived.ProofKit
import Derived.OpenShut
import Derived.Lib.Hide
import Derived.Deep.QuietTactic
import Derived.BigQuiet
import Derived.Laws.Bits128
namespace Go.Proofs.Ytkjlejkcedemlaa
set_option maxRecDepth 100000
set_option linter.unusedVariables false
open Go.ChangeShapes Go.WideShapes Go.ChangeAt Go.RowKit

set_option maxRecDepth 100000 in
set_option maxHeartbeats 2000000 in
theorem setr_yes (a b : Int) (g n cap : Nat) (x y : Int) (p0 p1 p2 p3 : Nat) (ha : In64 a) (hb : In64 b) (hn : n ≤ cap) (hc : cap ≤ maxLen) (w : World) (cur : Array Value) (hg : w.heap[g]? = some (.cells cur 46 (0, 0))) (hcur : n ≤ cur.size) (k : Nat) (hr : inB a b n x y = true) (hk : y * a + x = (k : Int)) (hk4 : 4 * k + 4 ≤ n) :
    Calls Try.prog 20 #[.agg #[.int .i64 a, .int .i64 b, .slice (some ⟨g, 0, none⟩) n cap], .int .i64 x, .int .i64 y, .agg #[.int .u16 (p0 : Nat), .int .u16 (p1 : Nat), .int .u16 (p2 : Nat), .int .u16 (p3 : Nat)]] w fun e w' =>
      e = .returned (.bool true) ∧ w.grownBy w' (some g) ∧ w'.heap[g]? = some (.cells (setCur cur k (pix4 p0 p1 p2 p3)) 46 (0, 0)) := by
  have hgl : g < w.heap.size := (Array.getElem?_eq_some_iff.1 hg).1
  obtain ⟨q0, q1, q2, q4⟩ := two_boxes w #[.int .i64 a, .int .i64 b, .slice (some ⟨g, 0, none⟩) n cap] #[.int .u16 (p0 : Nat), .int .u16 (p1 : Nat), .int .u16 (p2 : Nat), .int .u16 (p3 : Nat)] 26 47
  obtain ⟨hm, i1, i2, i3, i4⟩ := in_ok hr
  obtain ⟨s1, s2, s3, s4, s5⟩ := size_ok (may_ok hm).1
  obtain ⟨m0, m1⟩ := mul_bd y a 256 256 i3 (by omega) (by omega) s2
  have w1 : wrap64 (y * a) = y * a := IntWalk.wrap64_in _ (by omega)
  have w2' : wrap64 (y * a + x) = (k : Int) := (IntWalk.wrap64_in _ (by omega)).trans hk
  have v1 : IntKind.i64.wrap (y * a) = y * a := IntWalk.i64_in _ (by omega)
  have v2 : IntKind.i64.wrap (y * a + x) = (k : Int) := (IntWalk.i64_in _ (by omega)).trans hk
  have hk5 : (k : Int) ≤ 131072 := by omega
  have v3 : IntKind.i64.wrap (4 * (k : Int)) = 4 * (k : Int) := IntWalk.i64_in _ (by omega)
  have v4 : IntKind.i64.wrap (4 * (k : Int) + 4) = 4 * (k : Int) + 4 := IntWalk.i64_in _ (by omega)
  have HM := Lib.hid hm
  clear hm hr m0 m1 s1 s2 s3 s4 s5
  go_enter Try.func20, Try.ntmps20
  go_wp2_with fail
  refine (may_ref a b _ n cap ha hb hn hc _).mono ?_
  rintro e u1 ⟨rfl, hB⟩
  rw [HM.out]
  rw [q0] at hB
  have r0 := hp_below q1 hB (by omega)
  have r1 := hp_below q2 hB (by omega)
  have k0 := hp_cell (j := 0) r0 rfl
  have k1 := hp_cell (j := 1) r0 rfl
  have k2 := hp_cell (j := 2) r0 rfl
  have hB0 := q4.trans (hB.mono (by omega))
  have hg1 := hp_below hg hB0 hgl
  unfold maxLen at hc
  have hrun := run_copy_row (P := Try.prog) u1.drew 24 24 3 46 g (4 * k) 4 (cap - 4 * k) ⟨w.heap.size + 1, 0, none⟩ 4 4 cur _ (pix4 p0 p1 p2 p3) Try.underlying24 size38 hg1 (show 4 = Nat.min 4 4 from rfl)
    (by
      intro j v hj
      match j, hj with
      | 0, hj => exact (hp_cell (j := 0) r1 rfl).trans hj
      | 1, hj => exact (hp_cell (j := 1) r1 rfl).trans hj
      | 2, hj => exact (hp_cell (j := 2) r1 rfl).trans hj
      | 3, hj => exact (hp_cell (j := 3) r1 rfl).trans hj) (by simp [pix4]; omega) (by simp [pix4, Value.oneCell'])
  have hgr : w.grownBy (u1.drew.setRow g (setCur cur k (pix4 p0 p1 p2 p3))) (some g) := ((grown_of_below hB0 _).trans (grown_drewS _ _)).trans (grown_setRow _ _ _)
  have hgh : (u1.drew.setRow g (setCur cur k (pix4 p0 p1 p2 p3))).heap[g]? = some (.cells (setCur cur k (pix4 p0 p1 p2 p3)) 46 (0, 0)) := setRow_heap _ _ _ _ _ _ hg1
  have HG := Lib.hid hgr
  have HH := Lib.hid hgh
  have hl4 : (pix4 p0 p1 p2 p3).length = 4 := rfl
  change _ = Result.ok _ (u1.drew.setRow g (setCur cur k (pix4 p0 p1 p2 p3))) at hrun
  rw [hl4] at hrun
  have hck : ¬cap = 4 * k := by omega
  have hlI : (4 : Int) * (k : Int) + 4 ≤ (n : Int) := by omega
  have hlC : (4 : Int) * (k : Int) + 4 ≤ (cap : Int) := by omega
  have hkn : (0 : Int) ≤ (k : Int) := by omega
  clear hB hB0 q0 q1 q2 q4 r0 r1 hg hg1 hgr hgh hl4 hk
  go_wp2_with fail
  go_region
  go_wp2
  go_ret
  exact ⟨rfl, HG.out, HH.out⟩

set_option maxRecDepth 100000 in
set_option maxHeartbeats 2000000 in
theorem setr_no (a b : Int) (A : Option Addr) (n cap : Nat) (x y : Int) (p0 p1 p2 p3 : Nat) (ha : In64 a) (hb : In64 b) (hn : n ≤ cap) (hc : cap ≤ maxLen) (w : World) (hr : inB a b n x y = false) :
    Calls Try.prog 20 #[.agg #[.int .i64 a, .int .i64 b, .slice A n cap], .int .i64 x, .int .i64 y, .agg #[.int .u16 (p0 : Nat), .int .u16 (p1 : Nat), .int .u16 (p2 : Nat), .int .u16 (p3 : Nat)]] w fun e w' =>
      e = .returned (.bool false) ∧ Below w.heap.size w w' := by
  obtain ⟨q0, q1, q2, q4⟩ := two_boxes w #[.int .i64 a, .int .i64 b, .slice A n cap] #[.int .u16 (p0 : Nat), .int .u16 (p1 : Nat), .int .u16 (p2 : Nat), .int .u16 (p3 : Nat)] 26 47
  rcases in_cases a b n x y with hm | ⟨hm, h1⟩ | ⟨hm, h1, h2⟩ | ⟨hm, h1, h2, h3⟩ | ⟨hm, h1, h2, h3, h4⟩ | ⟨hm, h1, h2, h3, h4⟩
  case inr.inr.inr.inr.inr =>
    exfalso
    simp [inB, hm] at hr
    omega
  all_goals
    have HM := Lib.hid hm
    clear hr hm
    go_enter Try.func20, Try.ntmps20
    go_wp2_with fail
    refine (may_ref a b _ n cap ha hb hn hc _).mono ?_
    rintro e u1 ⟨rfl, hB⟩
    rw [HM.out]
    rw [q0] at hB
    have r0 := hp_below q1 hB (by omega)
    have k0 := hp_cell (j := 0) r0 rfl
    have k1 := hp_cell (j := 1) r0 rfl
    have k2 := hp_cell (j := 2) r0 rfl
    have HB := Lib.hid (q4.trans (hB.mono (by omega)))
    clear hB q0 q1 q2 q4 r0
    go_wp2
    go_ret
    exact ⟨rfl, HB.out⟩

/-! ### Set over a row of one's own -/
def setC (c : Nat → Nat) (k : Nat) (p : P4) (j : Nat) : Nat := if j = 4 * k then p.1 else if j = 4 * k + 1 then p.2.1 else if j = 4 * k + 2 then p.2.2.1 else if j = 4 * k + 3 then p.2.2.2 else c j
def setD (a b : Int) (n : Nat) (c : Nat → Nat) (x y : Int) (p : P4) : Nat → Nat := if inB a b n x y = true then setC c (y * a + x).toNat p else c
theorem setC_lt {c : Nat → Nat} (hc : ∀ i, c i < 65536) (k : Nat) {p : P4} (hp : w4 p) (i : Nat) : setC c k p i < 65536 := by
  obtain ⟨h1, h2, h3, h4⟩ := hp
  have := hc i
  unfold setC
  (repeat' split) <;> omega
theorem setD_lt {a b : Int} {n : Nat} {c : Nat → Nat} (hc : ∀ i, c i < 65536) (x y : Int) {p : P4} (hp : w4 p) (i : Nat) : setD a b n c x y p i < 65536 := by
  unfold setD
  split
  · exact setC_lt hc _ hp i
  · exact hc i
theorem setCur_own {n : Nat} {cur : Array Value} {c : Nat → Nat} (h : ∀ j, j < n → cur[j]? = some (.int .u16 (c j : Nat))) (hs : n ≤ cur.size) (k : Nat) (hk : 4 * k + 4 ≤ n) (p : P4) (j : Nat) (hj : j < n) :
    (setCur cur k (pix4 p.1 p.2.1 p.2.2.1 p.2.2.2))[j]? = some (.int .u16 (setC c k p j : Nat)) := by
  by_cases h1 : 4 * k ≤ j ∧ j < 4 * k + 4
  · obtain ⟨d, rfl⟩ := Nat.le.dest h1.1
    rw [setCur_in _ _ _ (by simp [pix4]; omega) _ (by simp [pix4]; omega)]
    obtain rfl | rfl | rfl | rfl : d = 0 ∨ d = 1 ∨ d = 2 ∨ d = 3 := by omega
    · simp [pix4, setC]
    · simp [pix4, setC]
    · simp [pix4, setC]
    · simp [pix4, setC]
  · rw [setCur_out _ _ _ (by simp [pix4]; omega) _ (by simp [pix4]; omega), h j hj]
    have : setC c k p j = c j := by unfold setC; rw [if_neg (by omega), if_neg (by omega), if_neg (by omega), if_neg (by omega)]
    rw [this]
/-- What a Set leaves. -/
def setPost (B : Nat) (a b : Int) (A : Option Addr) (n : Nat) (c : Nat → Nat) (x y : Int) (p : P4) (w : World) (e : Ending) (w' : World) : Prop :=
  e = .returned (.bool (inB a b n x y)) ∧ (B ≤ w.heap.size → Below B w w') ∧ (∀ g o, w.heap[g]? = some o → (∀ k, 0 < n → A = some ⟨k, 0, none⟩ → k ≠ g) → w'.heap[g]? = some o) ∧ Own B w' A n (setD a b n c x y p)
theorem set_any_of {a b : Int} {A : Option Addr} {n cap : Nat} {c : Nat → Nat} {x y : Int} {p : P4} {f : FuncId} {w : World} {B : Nat} (hO : Own B w A n c)
    (yes : ∀ (g : Nat) (cur : Array Value) (k : Nat), A = some ⟨g, 0, none⟩ → w.heap[g]? = some (.cells cur 46 (0, 0)) → n ≤ cur.size → inB a b n x y = true → y * a + x = (k : Int) → 4 * k + 4 ≤ n →
      Calls Try.prog f #[.agg #[.int .i64 a, .int .i64 b, .slice A n cap], .int .i64 x, .int .i64 y, .agg #[.int .u16 (p.1 : Nat), .int .u16 (p.2.1 : Nat), .int .u16 (p.2.2.1 : Nat), .int .u16 (p.2.2.2 : Nat)]] w fun e w' =>
        e = .returned (.bool true) ∧ w.grownBy w' (some g) ∧ w'.heap[g]? = some (.cells (setCur cur k (pix4 p.1 p.2.1 p.2.2.1 p.2.2.2)) 46 (0, 0)))
    (no : inB a b n x y = false → Calls Try.prog f #[.agg #[.int .i64 a, .int .i64 b, .slice A n cap], .int .i64 x, .int .i64 y, .agg #[.int .u16 (p.1 : Nat), .int .u16 (p.2.1 : Nat), .int .u16 (p.2.2.1 : Nat), .int .u16 (p.2.2.2 : Nat)]] w fun e w' =>
        e = .returned (.bool false) ∧ Below w.heap.size w w') :
    Calls Try.prog f #[.agg #[.int .i64 a, .int .i64 b, .slice A n cap], .int .i64 x, .int .i64 y, .agg #[.int .u16 (p.1 : Nat), .int .u16 (p.2.1 : Nat), .int .u16 (p.2.2.1 : Nat), .int .u16 (p.2.2.2 : Nat)]] w (setPost B a b A n c x y p w) := by
  cases hr : inB a b n x y with
  | true =>
    obtain ⟨k, hk, hk4, _⟩ := in_place hr
    obtain ⟨g, cur, rfl, hB, hg, hs, hcl⟩ := hO (by omega)
    refine (yes g cur k rfl hg hs hr hk hk4).mono ?_
    rintro e w' ⟨rfl, hgr, hg'⟩
    refine ⟨by rw [hr], fun h => (Below.refl _ _).grown hgr h (fun k e => by injection e with e; omega), fun k o hk2 hne => (hgr.block k (Array.getElem?_eq_some_iff.1 hk2).1 (fun e => by injection e with e; exact hne g (by omega) rfl e.symm)).trans hk2, fun hn => ⟨g, _, rfl, hB, hg', ?_, fun j hj => ?_⟩⟩
    · rw [setCur_size _ _ _ (by simp [pix4]; omega)]; exact hs
    · have e1 : setD a b n c x y p = setC c k p := by unfold setD; rw [if_pos hr, hk]; rfl
      rw [e1]
      exact setCur_own hcl hs k hk4 p j hj
  | false =>
    refine (no hr).mono ?_
    rintro e w' ⟨rfl, hb⟩
    refine ⟨by rw [hr], fun h => hb.mono h, fun k o hk2 _ => hp_below hk2 hb (Array.getElem?_eq_some_iff.1 hk2).1, ?_⟩
    have e1 : setD a b n c x y p = c := by unfold setD; rw [if_neg (by simp [hr])]
    rw [e1]
    exact hO.below hb
theorem set_any (a b : Int) (A : Option Addr) (n cap : Nat) (c : Nat → Nat) (x y : Int) (p : P4) (ha : In64 a) (hb : In64 b) (hn : n ≤ cap) (hc : cap ≤ maxLen) (w : World) {B : Nat} (hO : Own B w A n c) :
    Calls Try.prog 47 #[.agg #[.int .i64 a, .int .i64 b, .slice A n cap], .int .i64 x, .int .i64 y, .agg #[.int .u16 (p.1 : Nat), .int .u16 (p.2.1 : Nat), .int .u16 (p.2.2.1 : Nat), .int .u16 (p.2.2.2 : Nat)]] w (setPost B a b A n c x y p w) := by
  refine set_any_of hO ?_ (fun h => set_no a b A n cap x y p.1 p.2.1 p.2.2.1 p.2.2.2 ha hb hn hc w h)
  rintro g cur k rfl h1 h2 h3 h4 h5
  exact set_prog a b g n cap x y p.1 p.2.1 p.2.2.1 p.2.2.2 ha hb hn hc w cur h1 h2 k h3 h4 h5
theorem setr_any (a b : Int) (A : Option Addr) (n cap : Nat) (c : Nat → Nat) (x y : Int) (p : P4) (ha : In64 a) (hb : In64 b) (hn : n ≤ cap) (hc : cap ≤ maxLen) (w : World) {B : Nat} (hO : Own B w A n c) :
    Calls Try.prog 20 #[.agg #[.int .i64 a, .int .i64 b, .slice A n cap], .int .i64 x, .int .i64 y, .agg #[.int .u16 (p.1 : Nat), .int .u16 (p.2.1 : Nat), .int .u16 (p.2.2.1 : Nat), .int .u16 (p.2.2.2 : Nat)]] w (setPost B a b A n c x y p w) := by
  refine set_any_of hO ?_ (fun h => setr_no a b A n cap x y p.1 p.2.1 p.2.2.1 p.2.2.2 ha hb hn hc w h)
  rintro g cur k rfl h1 h2 h3 h4 h5
  exact setr_yes a b g n cap x y p.1 p.2.1 p.2.2.1 p.2.2.2 ha hb hn hc w cur h1 h2 k h3 h4 h5
end Go.Proofs.Ytkjlejkcedemlaa

namespace Go.Proofs.Ytkjlejkcedemlaa
set_option maxRecDepth 100000
set_option linter.unusedVariables false
open Go.ChangeShapes Go.WideShapes Go.ChangeAt Go.RowKit

/-- What lay in w lies in w', but for the blocks S. -/
structure Chg (S : List Nat) (w w' : World) : Prop where
  os : w'.os = w.os
  tape : w'.tape = w.tape
  output : w'.output = w.output
  size : w.heap.size ≤ w'.heap.size
  block : ∀ k, k < w.heap.size → k ∉ S → w'.heap[k]? = w.heap[k]?
section
variable {S : List Nat} {w w' w'' : World}
theorem Chg.refl (S : List Nat) (w : World) : Chg S w w := ⟨rfl, rfl, rfl, Nat.le_refl _, fun _ _ _ => rfl⟩
theorem Chg.trans (h : Chg S w w') (k : Chg S w' w'') : Chg S w w'' :=
  ⟨k.os.trans h.os, k.tape.trans h.tape, k.output.trans h.output, Nat.le_trans h.size k.size, fun i hi hs => (k.block i (Nat.lt_of_lt_of_le hi h.size) hs).trans (h.block i hi hs)⟩
theorem Chg.mono {T : List Nat} (h : Chg S w w') (hs : ∀ k ∈ S, k ∈ T) : Chg T w w' := ⟨h.os, h.tape, h.output, h.size, fun i hi hn => h.block i hi (fun hm => hn (hs i hm))⟩
theorem Chg.of_below (h : Below w.heap.size w w') : Chg S w w' := ⟨h.os, h.tape, h.output, h.size, fun i hi _ => h.block i hi⟩
theorem Chg.below {B : Nat} (h : Chg S w w') (hB : B ≤ w.heap.size) (hs : ∀ k ∈ S, B ≤ k) : Below B w w' :=
  ⟨h.os, h.tape, h.output, h.size, fun i hi => h.block i (by omega) (fun hm => by have := hs i hm; omega)⟩
theorem Chg.drew (h : Chg S w w') : Chg S w w'.drew := ⟨h.os, h.tape, h.output, h.size, h.block⟩
theorem Chg.drewN (h : Chg S w w') (n : Nat) : Chg S w (w'.drewN n) := ⟨h.os, h.tape, h.output, h.size, h.block⟩
theorem Chg.alloc (h : Chg S w w') (o : Obj) : Chg S w (w'.alloc o) :=
  h.trans (Chg.of_below ((Below.refl _ w').alloc (Nat.le_refl _) o))
theorem Chg.set (h : Chg S w w') {g : Nat} (hg : g ∈ S ∨ w.heap.size ≤ g) (i : Nat) (v : Value) : Chg S w (w'.setCell ⟨g, i, none⟩ v) := by
  refine ⟨h.os, h.tape, h.output, by simpa [World.setCell] using h.size, fun k hk hn => ?_⟩
  have hne : k ≠ g := by
    rintro rfl
    rcases hg with hg | hg
    · exact hn hg
    · omega
  exact (Below.heap_setCell w' _ v k hne).trans (h.block k hk hn)
theorem Chg.grown {row : Option Nat} (h : w.grownBy w' row) (hr : ∀ r, row = some r → r ∈ S) : Chg S w w' :=
  ⟨h.os, h.tape, h.output, h.size, fun k hk hn => h.block k hk (fun e => hn (hr k e.symm))⟩
end
theorem hp_chg {S : List Nat} {B : Nat} {W W' : World} {o : Obj} (h : W.heap[B]? = some o) (hb : Chg S W W') (hn : B ∉ S) : W'.heap[B]? = some o := (hb.block B (lt_heap h) hn).trans h
theorem hp_froz {W : World} {B : Nat} {cs : Array Value} {t : TypeId} (h : W.heap[B]? = some (.cells cs t (0, 0))) (j : Nat) : W.frozen? ⟨B, j, none⟩ = false := by simp [World.frozen?, h]
theorem hp_oth {W : World} {B g i : Nat} {v : Value} {o : Obj} (h : W.heap[B]? = some o) (hne : ¬B = g) : (W.setCell ⟨g, i, none⟩ v).heap[B]? = some o := (Below.heap_setCell W _ v B hne).trans h
theorem hp_newk {w : World} {o : Obj} {k : Nat} (hk : w.heap.size = k) : (w.alloc o).heap[k]? = some o := hk ▸ hp_new0 w o
theorem hp_drew {W : World} {b : Nat} {o : Option Obj} (h : W.heap[b]? = o) : W.drew.heap[b]? = o := h
def Off (A : Option Addr) (S : List Nat) : Prop := ∀ a, A = some a → a.block ∉ S
theorem Byt.chg {S : List Nat} {w w' : World} {A : Option Addr} {n : Nat} {c : Nat → Nat} (h : Byt w A n c) (hb : Chg S w w') (ho : 0 < n → Off A S) : Byt w' A n c := fun hn => by
  obtain ⟨bk, off, rfl, hlt, hc⟩ := h hn
  refine ⟨bk, off, rfl, Nat.lt_of_lt_of_le hlt hb.size, fun j hj => ?_⟩
  have h1 := hc j hj
  have h2 := hb.block bk hlt (ho hn _ rfl)
  simp only [World.cell?] at h1 ⊢
  rw [h2]
  exact h1
def cellsB (o : List Nat) : List Value := o.map fun k => .int .u8 ((k : Nat) : Int)
theorem cellsB_len (o : List Nat) : (cellsB o).length = o.length := by simp [cellsB]
def Near (g : Nat) (ob : Option Nat) : List Nat := g :: ob.toList
def Next (ob ob' : Option Nat) (w : World) : Prop := ob' = ob ∨ ∃ k, ob' = some k ∧ w.heap.size ≤ k
theorem near_grown {g : Nat} {ob : Option Nat} {w w' : World} (h : w.grownBy w' ob) : Chg (Near g ob) w w' := Chg.grown h (fun r e => by subst e; simp [Near])
theorem near_set {g : Nat} {ob : Option Nat} (w : World) (i : Nat) (v : Value) : Chg (Near g ob) w (w.setCell ⟨g, i, none⟩ v) := (Chg.refl _ w).set (.inl (by simp [Near])) i v
theorem cellsB_snoc (o : List Nat) (x : Nat) : cellsB (o ++ [x]) = cellsB o ++ [.int .u8 ((x : Nat) : Int)] := by simp [cellsB]
theorem own_apart' {w : World} {base : Nat} {e : TypeId} {size k : Nat} {x : Value} {xs : List Value} (h : w.ownsRow base e size x k xs) {r : Nat} (hr : r < base) : x.ownBlock = none ∨ x.ownBlock ≠ some r := by
  cases hx : x.ownBlock with
  | none => exact .inl rfl
  | some g =>
    refine .inr fun e => ?_
    injection e with e
    have := (h.lt g hx).1
    omega
theorem Chg.trans2 {S T : List Nat} {w w' w'' : World} (h : Chg S w w') (k : Chg T w' w'') (hT : ∀ x ∈ T, x ∈ S ∨ w.heap.size ≤ x) : Chg S w w'' :=
  ⟨k.os.trans h.os, k.tape.trans h.tape, k.output.trans h.output, Nat.le_trans h.size k.size, fun i hi hs => (k.block i (Nat.lt_of_lt_of_le hi h.size) (fun hm => by rcases hT i hm with h1 | h1; exact hs h1; omega)).trans (h.block i hi hs)⟩
theorem Next.near {g : Nat} {ob ob' : Option Nat} {w : World} (h : Next ob ob' w) : ∀ x ∈ Near g ob', x ∈ Near g ob ∨ w.heap.size ≤ x := fun x hx => by
  rcases h with rfl | ⟨k, rfl, hk⟩
  · exact .inl hx
  · simp [Near] at hx ⊢
    rcases hx with rfl | rfl
    · exact .inl (.inl rfl)
    · exact .inr hk
theorem Next.trans {ob ob' ob'' : Option Nat} {w w' : World} (h : Next ob ob' w) (k : Next ob' ob'' w') (hs : w.heap.size ≤ w'.heap.size) : Next ob ob'' w := by
  rcases k with rfl | ⟨q, rfl, hq⟩
  · exact h
  · exact .inr ⟨q, rfl, by omega⟩
theorem own_chg {w w' : World} {S : List Nat} {base size n : Nat} {e : TypeId} {v : Value} {xs : List Value} (h : w.ownsRow base e size v n xs) (hc : Chg S w w') (hS : ∀ k, v.ownBlock = some k → k ∉ S) : w'.ownsRow base e size v n xs := by
  obtain ⟨hl, hf⟩ := h
  refine ⟨hl, ?_⟩
  rcases hf with h0 | ⟨g, cap, cur, rfl, hB, hg, hnc, hcm, hcs, ht⟩
  · exact .inl h0
  · exact .inr ⟨g, cap, cur, rfl, hB, hp_chg hg hc (hS g rfl), hnc, hcm, hcs, ht⟩
theorem info_parts {P : Program} {t : TypeId} {z : Option Value} {s b : Nat} (h : (P.info? t).map (fun i => (i.zero, i.size, i.bytes)) = some (z, s, b)) : ∃ i, P.info? t = some i ∧ i.zero = z ∧ i.size = s ∧ i.bytes = b := by
  obtain ⟨i, hi, he⟩ := Option.map_eq_some_iff.1 h
  cases he
  exact ⟨i, hi, rfl, rfl, rfl⟩
theorem info8 : (Try.prog.info? 5).map (fun i => (i.zero, i.size, i.bytes)) = some (some (.int .u8 0), 1, 1) := by kernel_rfl
theorem near_mem {g k : Nat} {ob : Option Nat} : k ∈ Near g ob ↔ k = g ∨ ob = some k := by
  cases ob <;> simp [Near, eq_comm]
end Go.Proofs.Ytkjlejkcedemlaa

namespace Go.Proofs.Ytkjlejkcedemlaa
set_option maxRecDepth 100000
set_option linter.unusedVariables false
open Go.ChangeShapes Go.WideShapes Go.ChangeAt Go.RowKit

theorem i64_or_nat (a b : Nat) (ha : a < 9223372036854775808) (hb : b < 9223372036854775808) : bits .or .i64 (a : Int) (b : Int) = ((a ||| b : Nat) : Int) := by
  have hx : a ||| b < 2 ^ 63 := Nat.or_lt_two_pow (by omega) (by omega)
  show IntKind.i64.wrap ((BitVec.ofInt 64 (a : Int) ||| BitVec.ofInt 64 (b : Int)).toNat : Int) = _
  rw [BitVec.toNat_or, ofInt_u64 a (by omega), ofInt_u64 b (by omega)]
  exact IntWalk.i64_in _ (by omega)
theorem i64_and_nat (a b : Nat) (ha : a < 9223372036854775808) (hb : b < 9223372036854775808) : bits .and .i64 (a : Int) (b : Int) = ((a &&& b : Nat) : Int) := by
  have hx : a &&& b < 2 ^ 63 := Nat.and_lt_two_pow _ (by omega)
  show IntKind.i64.wrap ((BitVec.ofInt 64 (a : Int) &&& BitVec.ofInt 64 (b : Int)).toNat : Int) = _
  rw [BitVec.toNat_and, ofInt_u64 a (by omega), ofInt_u64 b (by omega)]
  exact IntWalk.i64_in _ (by omega)
/-- A number of so many bytes from a place on, the lowest first. -/
def lowD (d : Nat → Nat) : Nat → Nat → Nat
  | _, 0 => 0
  | p, k + 1 => d p + 256 * lowD d (p + 1) k
theorem lowD_lt {d : Nat → Nat} (hd : ∀ j, d j < 256) (p k : Nat) : lowD d p k < 256 ^ k := by
  induction k generalizing p with
  | zero => simp [lowD]
  | succ k ih =>
    have h1 := hd p
    have h2 := ih (p + 1)
    simp only [lowD, Nat.pow_succ]
    omega
theorem lowD_4 {d : Nat → Nat} (hd : ∀ j, d j < 256) (p k : Nat) (hk : k ≤ 4) : lowD d p k < 4294967296 := by
  have h := lowD_lt hd p k
  have h2 : 256 ^ k ≤ 256 ^ 4 := Nat.pow_le_pow_right (by omega) hk
  omega
theorem or_byte (x y : Nat) (hy : y < 256) : x * 256 ||| y = y + 256 * x := by
  have h := Nat.shiftLeft_add_eq_or_of_lt (i := 8) (show y < 2 ^ 8 by omega) x
  rw [Nat.shiftLeft_eq] at h
  have e : (2 : Nat) ^ 8 = 256 := rfl
  rw [e] at h
  rw [← h]
  omega
set_option maxRecDepth 100000 in
set_option maxHeartbeats 1000000 in
theorem low_ref (A : Option Addr) (m cap : Nat) (d : Nat → Nat) (hd : ∀ j, d j < 256) (p n : Nat) (hn : n ≤ 4) (hp : p + n ≤ m) (hm : m ≤ cap) (hcap : cap ≤ maxLen) (w : World) (hB : Byt w A m d) :
    Calls Try.prog 24 #[.slice A m cap, .int .i64 p, .int .i64 n] w fun e w' => e = .returned (.int .i64 (lowD d p n : Nat)) ∧ w' = w := by
  unfold maxLen at hcap
  have HD := Lib.hid hd
  clear hd
  go_enter Try.func24, Try.ntmps24
  go_wp2_with fail
  go_loopw [7, 8] (fun x i wr => ∃ k : Nat, k ≤ n ∧ i = .int .i64 ((n : Int) - 1 - (k : Int)) ∧ x = .int .i64 (lowD d (p + n - k) k : Nat) ∧ wr = w) (fun _ i _ => (intOf i + 1).toNat)
  case atStart => exact ⟨0, by omega, by simp, rfl, rfl⟩
  case round =>
    obtain ⟨k, hk, rfl, rfl, rfl⟩ := hrel
    by_cases hlt : k < n
    · obtain ⟨bk, off, rfl, hbl, hcl⟩ := hB (by omega)
      obtain ⟨i, hi⟩ : ∃ i, i = n - 1 - k := ⟨_, rfl⟩
      have e1 : (n : Int) - 1 - (k : Int) = (i : Int) := by omega
      obtain ⟨q, hq⟩ : ∃ q, q = p + i := ⟨_, rfl⟩
      have e2 : (p : Int) + (i : Int) = (q : Int) := by omega
      have c0 := hcl q (by omega)
      obtain ⟨x, hx⟩ : ∃ x, x = lowD d (p + n - k) k := ⟨_, rfl⟩
      have hx4 : x < 256 ^ k := by rw [hx]; exact lowD_lt HD.out _ _
      have hx5 : 256 ^ k ≤ 256 ^ 3 := Nat.pow_le_pow_right (by omega) (by omega)
      have hd8 := HD.out q
      have e3 : lowD d (p + n - (k + 1)) (k + 1) = d q + 256 * x := by
        rw [show p + n - (k + 1) = q by omega, lowD, show q + 1 = p + n - k by omega, ← hx]
      have e4 := i64_or_nat (x * 256) (d q) (by omega) (by omega)
      rw [or_byte x (d q) hd8, show ((x * 256 : Nat) : Int) = (x : Int) * 256 by simp] at e4
      have hqm : q < m := by omega
      have HX := Lib.hid e3
      rw [e1, ← hx]
      have HE := Lib.hid e1
      have e5 : wrap64 ((x : Int) * 256) = (x : Int) * 256 := IntWalk.wrap64_in _ (by omega)
      clear hx hx4 hx5 hi hq e3
      go_wp2_with fail
      go_roundw
      case rel => exact ⟨k + 1, hlt, by have := HE.out; congr 1; omega, by rw [HX.out]; exact congrArg (Value.int .i64) (by omega), trivial⟩
      case measure => simp [intOf]
    · have HK := Lib.hid (show k = n by omega)
      have hneg : ¬ (0 : Int) ≤ (n : Int) - 1 - (k : Int) := by omega
      go_wp2_with fail
      go_ret
      exact ⟨by rw [HK.out, Nat.add_sub_cancel]; rfl, rfl⟩

/-- A number of four bytes, signed. -/
def sgnV (x : Nat) : Int := if x < 2147483648 then (x : Int) else (x : Int) - 4294967296
set_option maxRecDepth 100000 in
/-- How often 2 divides it; what is left. -/
def evZ : Nat → Nat → Nat × Nat
  | 0, m => (0, m)
  | k + 1, m => if m % 2 = 0 then ((evZ k (m / 2)).1 + 1, (evZ k (m / 2)).2) else (0, m)
/-- How many ones it ends in; what is left. -/
def onZ : Nat → Nat → Nat × Nat
  | 0, m => (0, m)
  | k + 1, m => if m % 2 = 1 then ((onZ k (m / 2)).1 + 1, (onZ k (m / 2)).2) else (0, m)
theorem evZ_ev {m : Nat} (k : Nat) (h : m % 2 = 0) : evZ (k + 1) m = ((evZ k (m / 2)).1 + 1, (evZ k (m / 2)).2) := by rw [evZ, if_pos h]
theorem evZ_od {m : Nat} (k : Nat) (h : ¬m % 2 = 0) : evZ k m = (0, m) := by
  cases k with
  | zero => rfl
  | succ k => rw [evZ, if_neg h]
theorem onZ_od {m : Nat} (k : Nat) (h : m % 2 = 1) : onZ (k + 1) m = ((onZ k (m / 2)).1 + 1, (onZ k (m / 2)).2) := by rw [onZ, if_pos h]
theorem onZ_ev {m : Nat} (k : Nat) (h : ¬m % 2 = 1) : onZ k m = (0, m) := by
  cases k with
  | zero => rfl
  | succ k => rw [onZ, if_neg h]
def runM (m : Nat) : Nat × Nat × Bool :=
  if m = 0 then (0, 0, false) else if (onZ 32 (evZ 32 m).2).2 = 0 then ((evZ 32 m).1, (onZ 32 (evZ 32 m).2).1, true) else (0, 0, false)
def seenF (f : Nat → Nat) : Nat → Nat
  | 0 => 0
  | i + 1 => seenF f i ||| f i
def msOk (f : Nat → Nat) (b i : Nat) : Bool :=
  (decide (f i = 0) && decide (i = 3)) || ((runM (f i)).2.2 && decide ((runM (f i)).2.1 ≤ 8) && decide (f i &&& seenF f i = 0) && decide ((runM (f i)).1 + (runM (f i)).2.1 ≤ b))
/-- Do masks go? -/
def masksB (f : Nat → Nat) (b : Nat) : Bool := (List.range 4).all (msOk f b)
theorem seenF_lt {f : Nat → Nat} (hf : ∀ i, f i < 4294967296) (i : Nat) : seenF f i < 4294967296 := by
  induction i with
  | zero => simp [seenF]
  | succ i ih => exact Nat.or_lt_two_pow (n := 32) ih (hf i)
theorem evZ_le (k m : Nat) : (evZ k m).1 ≤ k := by
  induction k generalizing m with
  | zero => simp [evZ]
  | succ k ih =>
    rw [evZ]
    split
    · have := ih (m / 2)
      simp only
      omega
    · simp
theorem onZ_le (k m : Nat) : (onZ k m).1 ≤ k := by
  induction k generalizing m with
  | zero => simp [onZ]
  | succ k ih =>
    rw [onZ]
    split
    · have := ih (m / 2)
      simp only
      omega
    · simp
theorem runM_le (m : Nat) : (runM m).1 ≤ 32 ∧ (runM m).2.1 ≤ 32 := by
  have h1 := evZ_le 32 m
  have h2 := onZ_le 32 (evZ 32 m).2
  rw [runM]
  split
  · simp
  · split
    · exact ⟨h1, h2⟩
    · simp
theorem masksB_f {f : Nat → Nat} {b i : Nat} (hi : i < 4) (h : msOk f b i = false) : masksB f b = false := by
  rw [← Bool.not_eq_true, masksB, List.all_eq_true]
  intro h2
  have := h2 i (List.mem_range.2 hi)
  rw [h] at this
  cases this
/-- A sample of a number by its mask. -/
def bmF (f : Nat → Nat) (v j : Nat) : Int :=
  if (runM (f j)).2.2 then maskV ((v / 2 ^ (runM (f j)).1 % 2 ^ (runM (f j)).2.1 : Nat) : Int) ((runM (f j)).2.1 : Nat) else if j = 3 then 65535 else 0
def bmQ (f : Nat → Nat) (v i j : Nat) : Int := if j < i then bmF f v j else if j = 3 then 65535 else 0
def bmC (f : Nat → Nat) (v i : Nat) : Array Value := #[.int .u16 (bmQ f v i 0), .int .u16 (bmQ f v i 1), .int .u16 (bmQ f v i 2), .int .u16 (bmQ f v i 3)]
theorem bmC_succ (f : Nat → Nat) (v i : Nat) (hi : i < 4) : (bmC f v i).setIfInBounds i (.int .u16 (bmF f v i)) = bmC f v (i + 1) := by
  have h : i = 0 ∨ i = 1 ∨ i = 2 ∨ i = 3 := by omega
  rcases h with rfl | rfl | rfl | rfl <;> simp [bmC, bmQ]
theorem bmC_same (f : Nat → Nat) (v i : Nat) (hi : i < 4) (h0 : (runM (f i)).2.2 = false) : bmC f v i = bmC f v (i + 1) := by
  have h : i = 0 ∨ i = 1 ∨ i = 2 ∨ i = 3 := by omega
  rcases h with rfl | rfl | rfl | rfl <;> simp [bmC, bmQ, bmF, h0]
def bmV (f : Nat → Nat) (v : Nat) : Value := .agg #[.int .u16 (bmF f v 0), .int .u16 (bmF f v 1), .int .u16 (bmF f v 2), .int .u16 (bmF f v 3)]
end Go.Proofs.Ytkjlejkcedemlaa

namespace Go.Proofs.Ytkjlejkcedemlaa
set_option maxRecDepth 100000
set_option linter.unusedVariables false
open Go.ChangeShapes Go.WideShapes Go.ChangeAt Go.RowKit

def strB (m : Nat) (d : Nat → Nat) : ByteArray := strOfNums ((List.range m).map fun i => ((d i : Nat) : Int))
theorem ba_beq (s : ByteArray) : (s == s) = true := by
  cases s with | mk d =>
  show (d == d) = true
  exact beq_iff_eq.2 rfl
theorem strB_congr {m : Nat} {d d' : Nat → Nat} (h : ∀ i, i < m → d i = d' i) : strB m d = strB m d' := by
  unfold strB
  congr 1
  apply List.map_congr_left
  intro i hi
  rw [h i (by simpa using hi)]
theorem run_str {w : World} {A : Option Addr} {m cap : Nat} {d : Nat → Nat} (h : Byt w A m d) :
    (convert 22 9 (.slice A m cap)).run Try.prog w = .ok (.string (strB m d)) w := by
  by_cases hm : 0 < m
  · obtain ⟨bk, off, rfl, _, hc⟩ := h hm
    exact run_convert_bytes_arg w 22 5 Try.underlying22 Try.underlying5 bk off m cap ((List.range m).map fun i => ((d i : Nat) : Int)) (by simp)
      (fun i hi => by rw [hc i hi]; simp [List.getD_eq_getElem?_getD, hi]) 9 Try.underlying9
  · obtain rfl : m = 0 := by omega
    cases A with
    | none => exact run_convert_bytes_nil w 22 5 Try.underlying22 Try.underlying5 0 cap 9 Try.underlying9
    | some a =>
      rw [run_convert_bytes_string w 22 9 5 _ 0 cap Try.underlying22 Try.underlying5 Try.underlying9]
      exact run_bytesToString w a 0 cap [] (run_loadCells_list (P := Try.prog) w a [] (fun j v hj => by simp at hj))
end Go.Proofs.Ytkjlejkcedemlaa

namespace Go.Proofs.Ytkjlejkcedemlaa
set_option maxRecDepth 100000
set_option linter.unusedVariables false
open Go.RowKit
/-- k's body is entered with what it captured. -/
def Enters (k : FuncId) (caps : Array Value) : Prop := ∀ W : World, (callFunc k caps).run Try.prog W = .ok (.enter k caps) W
end Go.Proofs.Ytkjlejkcedemlaa

namespace Go.Proofs.Ytkjlejkcedemlaa
set_option maxRecDepth 100000
set_option linter.unusedVariables false
open Go.ChangeShapes Go.WideShapes Go.ChangeAt Go.RowKit
section
variable {S : List Nat} {w w' w'' : World}
end
/-- A reader's row: n bytes b, at bits of them read. -/
structure Rd (T : TypeId) (g : Nat) (A : Option Addr) (n cap : Nat) (b : Nat → Nat) (p : Nat) (vo : Value) (fr : Int) (w : World) : Prop where
  box : w.heap[g]? = some (.cells #[.slice A n cap, vo, .int .i64 (p : Nat), .int .i64 fr] T (0, 0))
  byt : Byt w A n b
  off : 0 < n → Off A [g]
section
variable {T : TypeId} {g : Nat} {A : Option Addr} {n cap : Nat} {b : Nat → Nat} {p : Nat} {vo : Value} {fr : Int} {w w' : World}
theorem Rd.chg {S : List Nat} (h : Rd T g A n cap b p vo fr w) (hc : Chg S w w') (hg : g ∉ S) (hA : 0 < n → Off A S) : Rd T g A n cap b p vo fr w' :=
  ⟨hp_chg h.box hc hg, h.byt.chg hc hA, h.off⟩
theorem Rd.alloc (h : Rd T g A n cap b p vo fr w) (o : Obj) : Rd T g A n cap b p vo fr (w.alloc o) :=
  h.chg ((Chg.refl [] w).alloc o) (by simp) (fun _ _ _ => by simp)
theorem Rd.move (h : Rd T g A n cap b p vo fr w) {q : Nat} (hc : Chg [g] w w') (hb : w'.heap[g]? = some (.cells #[.slice A n cap, vo, .int .i64 (q : Nat), .int .i64 fr] T (0, 0))) : Rd T g A n cap b q vo fr w' :=
  ⟨hb, h.byt.chg hc h.off, h.off⟩
end
def bitL (b : Nat → Nat) (k : Nat) : Nat := b (k / 8) / 2 ^ (k % 8) % 2
def bitH (b : Nat → Nat) (k : Nat) : Nat := b (k / 8) / 2 ^ (7 - k % 8) % 2

set_option maxRecDepth 100000 in
set_option maxHeartbeats 1000000 in
theorem left_row (T : TypeId) (g : Nat) (A : Option Addr) (n cap : Nat) (b : Nat → Nat) (p : Nat) (vo : Value) (fr : Int) (hn : n ≤ 1000000) (hp : p ≤ 8 * n) (w : World) (h : Rd T g A n cap b p vo fr w) :
    Calls Try.prog 79 #[.pointer (some ⟨g, 0, none⟩)] w fun e w' => e = .returned (.int .i64 ((8 * n - p : Nat) : Int)) ∧ ∃ m, w' = w.drewN m := by
  have c0 := hp_cell (j := 0) h.box rfl
  have c2 := hp_cell (j := 2) h.box rfl
  have e1 : (8 : Int) * n - p = ((8 * n - p : Nat) : Int) := by omega
  go_enter Try.func79, Try.ntmps79
  go_wp2_with fail
  go_quiet (fail)
  go_wp2
  go_ret
  exact ⟨rfl, _, rfl⟩
end Go.Proofs.Ytkjlejkcedemlaa

namespace Go.Proofs.Ytkjlejkcedemlaa
set_option maxRecDepth 100000
set_option linter.unusedVariables false
open Go.ChangeShapes Go.WideShapes Go.ChangeAt Go.RowKit
theorem i64_and1 (n : Int) : bits .and .i64 n 1 = n % 2 := by
  show IntKind.i64.wrap ((BitVec.ofInt 64 n &&& BitVec.ofInt 64 1).toNat : Int) = _
  rw [BitVec.toNat_and, show (BitVec.ofInt 64 1).toNat = 1 from rfl, nat_mask1, BitVec.toNat_ofInt]
  have h1 : (0 : Int) ≤ n % (2 ^ 64 : Nat) := Int.emod_nonneg _ (by omega)
  have h2 : ((n % ((2 ^ 64 : Nat) : Int)).toNat % 2 : Nat) = ((n % 2).toNat) := by omega
  rw [h2]
  rw [IntWalk.i64_in _ (by omega)]
  omega
theorem run_quo8 (p : Nat) (hp : p < 1000000000) (W : World) : (binOp BinOp.quo 3 (.int .i64 (p : Nat)) (.int .i64 8)).run Try.prog W = .ok (.int .i64 ((p / 8 : Nat) : Int)) W := by
  simp [binOp, go_sem]
  exact IntWalk.i64_in _ (by omega)
theorem run_rem8 (p : Nat) (hp : p < 1000000000) (W : World) : (binOp BinOp.rem 3 (.int .i64 (p : Nat)) (.int .i64 8)).run Try.prog W = .ok (.int .i64 ((p % 8 : Nat) : Int)) W := by
  simp [binOp, go_sem]
  exact Int.tmod_eq_emod_of_nonneg (by omega)
theorem run_shr8 (x p : Nat) (hx : x < 256) (hp : p < 8) (W : World) : (binOp .shr 5 (.int .u8 (x : Nat)) (.int .i64 (p : Nat))).run Try.prog W = .ok (.int .u8 ((x / 2 ^ p : Nat) : Int)) W := by
  simp [binOp, go_sem]
theorem pow_bd {x p : Nat} (hx : x < 16777216) (hp : p ≤ 24) : x * 2 ^ p < 281474976710656 := by
  have h : 2 ^ p ≤ 2 ^ 24 := Nat.pow_le_pow_right (by omega) hp
  calc x * 2 ^ p ≤ x * 2 ^ 24 := Nat.mul_le_mul_left _ h
    _ < 281474976710656 := by omega
theorem run_shl (x p : Nat) (hx : x < 16777216) (hp : p ≤ 24) (W : World) : (binOp .shl 3 (.int .i64 (x : Nat)) (.int .i64 (p : Nat))).run Try.prog W = .ok (.int .i64 ((x * 2 ^ p : Nat) : Int)) W := by
  have h := pow_bd hx hp
  simp [binOp, go_sem]
  have e : (x : Int) * 2 ^ p = ((x * 2 ^ p : Nat) : Int) := by simp
  rw [e]
  exact IntWalk.i64_in _ (by omega)
theorem run_or (x p : Nat) (hx : x < 281474976710656) (hp : p < 281474976710656) (W : World) : (binOp .or 3 (.int .i64 (x : Nat)) (.int .i64 (p : Nat))).run Try.prog W = .ok (.int .i64 ((x ||| p : Nat) : Int)) W := by
  simp [binOp, go_sem]
  exact i64_or_nat x p (by omega) (by omega)
theorem run_and1 (x : Nat) (hx : x < 256) (W : World) : (binOp .and 5 (.int .u8 (x : Nat)) (.int .u8 1)).run Try.prog W = .ok (.int .u8 ((x % 2 : Nat) : Int)) W := by
  simp [binOp, go_sem]
  have := u8_and_nat x 1 hx (by omega)
  rw [nat_mask1] at this
  simpa using this
theorem and1_eq (x p : Nat) (hx : x / 2 ^ p < 256) : wrap64 (bits .and .u8 ((x : Int) / 2 ^ p) 1) = ((x / 2 ^ p % 2 : Nat) : Int) := by
  have e : (x : Int) / 2 ^ p = ((x / 2 ^ p : Nat) : Int) := by simp
  rw [e]
  have := u8_and_nat (x / 2 ^ p) 1 hx (by omega)
  rw [nat_mask1] at this
  rw [show (1 : Int) = ((1 : Nat) : Int) from rfl, this]
  exact IntWalk.wrap64_in _ (by omega)
end Go.Proofs.Ytkjlejkcedemlaa

namespace Go.Proofs.Ytkjlejkcedemlaa
set_option maxRecDepth 100000
set_option linter.unusedVariables false
open Go.ChangeShapes Go.WideShapes Go.ChangeAt Go.RowKit

/-- May k bits be asked for where l are left? -/
def askB (k : Int) (l : Nat) : Bool := decide (0 ≤ k ∧ k ≤ 24 ∧ k ≤ (l : Int))
def Stop1 (e : Ending) : Prop := ∃ u pv, e = .panicked [{ v := .iface u pv, recovered := false }]
def takeL (b : Nat → Nat) (p : Nat) : Nat → Nat
  | 0 => 0
  | k + 1 => takeL b p k + bitL b (p + k) * 2 ^ k
def takeH (b : Nat → Nat) (p : Nat) : Nat → Nat
  | 0 => 0
  | k + 1 => 2 * takeH b p k + bitH b (p + k)
theorem bitL_lt (b : Nat → Nat) (p : Nat) : bitL b p < 2 := Nat.mod_lt _ (by omega)
theorem bitH_lt (b : Nat → Nat) (p : Nat) : bitH b p < 2 := Nat.mod_lt _ (by omega)
theorem takeL_lt (b : Nat → Nat) (p k : Nat) : takeL b p k < 2 ^ k := by
  induction k with
  | zero => simp [takeL]
  | succ k ih =>
    have h := bitL_lt b (p + k)
    have h2 : bitL b (p + k) * 2 ^ k ≤ 1 * 2 ^ k := Nat.mul_le_mul_right _ (by omega)
    rw [takeL, Nat.pow_succ]
    omega
theorem takeH_lt (b : Nat → Nat) (p k : Nat) : takeH b p k < 2 ^ k := by
  induction k with
  | zero => simp [takeH]
  | succ k ih =>
    have h := bitH_lt b (p + k)
    rw [takeH, Nat.pow_succ]
    omega
theorem pow24 {k : Nat} (h : k ≤ 24) : 2 ^ k ≤ 16777216 := Nat.pow_le_pow_right (n := 2) (by omega) h
theorem orL (b : Nat → Nat) (p k : Nat) : takeL b p k ||| bitL b (p + k) * 2 ^ k = takeL b p (k + 1) := by
  have h := takeL_lt b p k
  rw [Nat.or_comm, nat_join k _ _ (by simp) h, takeL, Nat.add_comm]
theorem orH (b : Nat → Nat) (p k : Nat) : takeH b p k * 2 ||| bitH b (p + k) = takeH b p (k + 1) := by
  have h := bitH_lt b (p + k)
  rw [nat_join 1 _ _ (by omega) (by omega), takeH, Nat.mul_comm]
theorem val_i {k : IntKind} {a b : Int} (h : a = b) : Value.int k a = Value.int k b := by rw [h]
theorem orL_eq (b : Nat → Nat) (p k : Nat) (hk : k < 24) : bits BinOp.or IntKind.i64 ((takeL b p k : Nat) : Int) (wrap64 (((bitL b (p + k) : Nat) : Int) * 2 ^ k)) = ((takeL b p (k + 1) : Nat) : Int) := by
  have h1 := takeL_lt b p k
  have h2 := bitL_lt b (p + k)
  have h3 := pow24 (k := k) (by omega)
  have h4 := pow_bd (x := bitL b (p + k)) (p := k) (by omega) (by omega)
  rw [show ((bitL b (p + k) : Nat) : Int) * 2 ^ k = ((bitL b (p + k) * 2 ^ k : Nat) : Int) by simp, IntWalk.wrap64_in _ (by omega), i64_or_nat _ _ (by omega) (by omega), orL]
theorem orH_eq (b : Nat → Nat) (p k : Nat) (hk : k < 24) : bits BinOp.or IntKind.i64 (((takeH b p k : Nat) : Int) * 2) ((bitH b (p + k) : Nat) : Int) = ((takeH b p (k + 1) : Nat) : Int) := by
  have h1 := takeH_lt b p k
  have h2 := bitH_lt b (p + k)
  have h3 := pow24 (k := k) (by omega)
  rw [show ((takeH b p k : Nat) : Int) * 2 = ((takeH b p k * 2 : Nat) : Int) by simp, i64_or_nat _ _ (by omega) (by omega), orH]
section
variable (T : TypeId) (g : Nat) (A : Option Addr) (n cap : Nat) (b : Nat → Nat) (p : Nat) (vo : Value) (fr : Int) (hn : n ≤ 1000000)
include hn
set_option maxRecDepth 100000 in
set_option maxHeartbeats 1000000 in
theorem ask_yes (hp : p ≤ 8 * n) (k : Int) (hk : askB k (8 * n - p) = true) (w : World) (h : Rd T g A n cap b p vo fr w) :
    Calls Try.prog 75 #[.pointer (some ⟨g, 0, none⟩), .int .i64 k] w fun e w' => e = .returned (.tuple #[]) ∧ ∃ m, w' = w.drewN m := by
  simp only [askB, decide_eq_true_eq] at hk
  obtain ⟨k1, k2, k3⟩ := hk
  go_enter Try.func75, Try.ntmps75
  have d1 : decide (k < 0) = false := by simp; omega
  have d2 : decide (24 < k) = false := by simp; omega
  go_wp2_with fail
  refine (left_row T g A n cap b p vo fr hn hp _ h).mono ?_
  rintro e w1 ⟨rfl, m, rfl⟩
  have d3 : decide (((8 * n - p : Nat) : Int) < k) = false := by simp; omega
  go_wp2
  go_end0
  exact ⟨rfl, _, rfl⟩
set_option maxRecDepth 100000 in
set_option maxHeartbeats 1000000 in
theorem ask_no (hp : p ≤ 8 * n) (k : Int) (hk : askB k (8 * n - p) = false) (w : World) (h : Rd T g A n cap b p vo fr w) :
    Calls Try.prog 75 #[.pointer (some ⟨g, 0, none⟩), .int .i64 k] w fun e w' => Stop1 e ∧ ∃ m, w' = w.drewN m := by
  simp only [askB, decide_eq_false_iff_not] at hk
  go_enter Try.func75, Try.ntmps75
  by_cases d1 : k < 0
  · go_wp2
    exact ⟨rfl, ⟨_, _, rfl⟩, 0, rfl⟩
  by_cases d2 : 24 < k
  · go_wp2
    exact ⟨rfl, ⟨_, _, rfl⟩, 0, rfl⟩
  have d1 : decide (k < 0) = false := by simp; omega
  have d2 : decide (24 < k) = false := by simp; omega
  go_wp2_with fail
  refine (left_row T g A n cap b p vo fr hn hp _ h).mono ?_
  rintro e w1 ⟨rfl, m, rfl⟩
  have d3 : decide (((8 * n - p : Nat) : Int) < k) = true := by simp; omega
  go_wp2
  exact ⟨rfl, ⟨_, _, rfl⟩, _, rfl⟩
set_option maxRecDepth 100000 in
set_option maxHeartbeats 1000000 in
theorem nextL (hp : p < 8 * n) (hb : ∀ i, b i < 256) (w : World) (h : Rd 117 g A n cap b p vo fr w) :
    Calls Try.prog 76 #[.pointer (some ⟨g, 0, none⟩)] w fun e w' => e = .returned (.int .i64 (bitL b p : Nat)) ∧ Chg [g] w w' ∧ Rd 117 g A n cap b (p + 1) vo fr w' := by
  have c0 := hp_cell (j := 0) h.box rfl
  have c2 := hp_cell (j := 2) h.box rfl
  obtain ⟨bk, off, rfl, hlt, hc⟩ := h.byt (by omega)
  have hq := run_quo8 p (by omega)
  have hr := run_rem8 p (by omega)
  have cb := hc (p / 8) (by omega)
  have hlq : p / 8 < n := by omega
  have hs := run_shr8 (b (p / 8)) (p % 8) (hb _) (by omega)
  have e7 : (7 : Int) - ((p % 8 : Nat) : Int) = ((7 - p % 8 : Nat) : Int) := by omega
  have hbl : b (p / 8) / 2 ^ (p % 8) < 256 := Nat.lt_of_le_of_lt (Nat.div_le_self _ _) (hb _)
  have ha := run_and1 _ hbl
  have hof := h.off (by omega) _ rfl
  simp at hof
  have ff := fun j => hp_froz h.box j
  have HR := Lib.hid h
  clear h hc
  go_enter Try.func76, Try.ntmps76
  go_wp2_with fail
  go_quiet (fail)
  go_wp2
  go_ret
  have e1 : wrap64 (bits .and .u8 (((b (p / 8) : Nat) : Int) / 2 ^ (p % 8)) 1) = ((bitL b p : Nat) : Int) := and1_eq _ _ hbl
  have hc2 : Chg [g] w ((w.drewN nq).setCell ⟨g, 2, none⟩ (.int .i64 ((p : Int) + 1))) := ((Chg.refl _ w).drewN nq).set (.inl (by simp)) _ _
  exact ⟨ret_i e1, hc2, HR.out.move hc2 (heap_set (W := w.drewN nq) (i := 2) (x := .int .i64 ((p : Int) + 1)) HR.out.box)⟩
set_option maxRecDepth 100000 in
set_option maxHeartbeats 1000000 in
theorem takeL_yes (hp : p ≤ 8 * n) (hb : ∀ i, b i < 256) (k : Nat) (hk : askB k (8 * n - p) = true) (w : World) (h : Rd 117 g A n cap b p vo fr w) :
    Calls Try.prog 71 #[.pointer (some ⟨g, 0, none⟩), .int .i64 (k : Nat)] w fun e w' => e = .returned (.int .i64 (takeL b p k : Nat)) ∧ Chg [g] w w' ∧ Rd 117 g A n cap b (p + k) vo fr w' := by
  have hk' := hk
  simp only [askB, decide_eq_true_eq] at hk'
  obtain ⟨_, k2, k3⟩ := hk'
  have HK := Lib.hid hk
  clear hk
  have c0 := hp_cell (j := 0) h.box rfl
  go_enter Try.func71, Try.ntmps71
  go_wp2_with fail
  refine (ask_yes _ g A n cap b p vo fr hn hp k HK.out _ h).mono ?_
  rintro e w1 ⟨rfl, m, rfl⟩
  have h1 := h.chg ((Chg.refl [] w).drewN m) (by simp) (fun _ _ _ => by simp)
  have HC := Lib.hid ((Chg.refl [g] w).drewN m)
  clear h c0
  go_wp2_with fail
  go_loopw [5, 13] (fun x i wr => ∃ j : Nat, j ≤ k ∧ i = .int .i64 j ∧ x = .int .i64 (takeL b p j : Nat) ∧ Chg [g] w wr ∧ Rd 117 g A n cap b (p + j) vo fr wr) (fun _ i _ => k - (intOf i).toNat)
  case atStart => exact ⟨0, by omega, rfl, rfl, HC.out, h1⟩
  case round =>
    obtain ⟨j, hj, rfl, rfl, hC, hR⟩ := hrel
    have b0 := hp_cell (j := 0) hR.box rfl
    by_cases hlt : j < k
    · go_wp2_with fail
      refine (nextL g A n cap b (p + j) vo fr hn (by omega) hb _ hR).mono ?_
      rintro e w2 ⟨rfl, hC2, hR2⟩
      have HC2 := Lib.hid (hC.trans hC2)
      have HR2 := Lib.hid hR2
      clear hC hC2 hR hR2 b0
      go_wp2_with fail
      go_roundw
      case rel => exact ⟨j + 1, by omega, by go_num, val_i (orL_eq b p j (by omega)), HC2.out, HR2.out⟩
      case measure => simp [intOf]; omega
    · obtain rfl : j = k := by omega
      go_wp2_with fail
      go_ret
      exact ⟨rfl, hC, hR⟩
set_option maxRecDepth 100000 in
set_option maxHeartbeats 1000000 in
theorem takeL_no (hp : p ≤ 8 * n) (k : Int) (hk : askB k (8 * n - p) = false) (w : World) (h : Rd 117 g A n cap b p vo fr w) :
    Calls Try.prog 71 #[.pointer (some ⟨g, 0, none⟩), .int .i64 k] w fun e w' => Stop1 e ∧ ∃ m, w' = w.drewN m := by
  have HK := Lib.hid hk
  clear hk
  have c0 := hp_cell (j := 0) h.box rfl
  go_enter Try.func71, Try.ntmps71
  go_wp2_with fail
  refine (ask_no _ g A n cap b p vo fr hn hp k HK.out _ h).mono ?_
  rintro e w1 ⟨⟨u, pv, rfl⟩, m, rfl⟩
  go_wp2
  exact ⟨rfl, ⟨_, _, rfl⟩, m, rfl⟩
end
end Go.Proofs.Ytkjlejkcedemlaa

namespace Go.Proofs.Ytkjlejkcedemlaa
set_option maxRecDepth 100000
set_option linter.unusedVariables false
open Go.ChangeShapes Go.WideShapes Go.ChangeAt Go.RowKit

/-- The reference's reader. -/
structure Rf (g : Nat) (A : Option Addr) (n cap : Nat) (b : Nat → Nat) (p : Nat) (hi sh : Bool) (w : World) : Prop where
  box : w.heap[g]? = some (.cells #[.slice A n cap, .int .i64 (p : Nat), .bool hi, .bool sh] 93 (0, 0))
  byt : Byt w A n b
  off : 0 < n → Off A [g]
section
variable {g : Nat} {A : Option Addr} {n cap : Nat} {b : Nat → Nat} {p : Nat} {hi sh : Bool} {w w' : World}
theorem Rf.chg {S : List Nat} (h : Rf g A n cap b p hi sh w) (hc : Chg S w w') (hg : g ∉ S) (hA : 0 < n → Off A S) : Rf g A n cap b p hi sh w' :=
  ⟨hp_chg h.box hc hg, h.byt.chg hc hA, h.off⟩
theorem Rf.move (h : Rf g A n cap b p hi sh w) {q : Nat} {sh' : Bool} (hc : Chg [g] w w') (hb : w'.heap[g]? = some (.cells #[.slice A n cap, .int .i64 (q : Nat), .bool hi, .bool sh'] 93 (0, 0))) : Rf g A n cap b q hi sh' w' :=
  ⟨hb, h.byt.chg hc h.off, h.off⟩
end
theorem orL_eq' (b : Nat → Nat) (p k : Nat) (hk : k < 24) : bits BinOp.or IntKind.i64 ((takeL b p k : Nat) : Int) (wrap64 (((bitL b (p + k) : Nat) : Int) * 2 ^ k)) = ((takeL b p (k + 1) : Nat) : Int) := orL_eq b p k hk
theorem orH_eq' (b : Nat → Nat) (p k : Nat) (hk : k < 24) : bits BinOp.or IntKind.i64 (wrap64 (((takeH b p k : Nat) : Int) * 2)) ((bitH b (p + k) : Nat) : Int) = ((takeH b p (k + 1) : Nat) : Int) := by
  have h1 := takeH_lt b p k
  have h3 := pow24 (k := k) (by omega)
  rw [IntWalk.wrap64_in _ (by omega)]
  exact orH_eq b p k hk
def bitB (hi : Bool) (b : Nat → Nat) (k : Nat) : Nat := if hi = true then bitH b k else bitL b k
def takeB (hi : Bool) (b : Nat → Nat) (p k : Nat) : Nat := if hi = true then takeH b p k else takeL b p k
theorem and1_i64 (x p : Nat) (hx : x / 2 ^ p < 256) : bits .and .i64 (wrap64 ((x : Int) / 2 ^ p)) 1 = ((x / 2 ^ p % 2 : Nat) : Int) := by
  rw [show (x : Int) / 2 ^ p = ((x / 2 ^ p : Nat) : Int) by simp]
  generalize x / 2 ^ p = y at *
  rw [IntWalk.wrap64_in _ (by omega), i64_and1]
  omega
theorem bitB_lt (hi : Bool) (b : Nat → Nat) (k : Nat) : bitB hi b k < 2 := by unfold bitB; split; exact bitH_lt b k; exact bitL_lt b k
section
variable (g : Nat) (A : Option Addr) (n cap : Nat) (b : Nat → Nat) (p : Nat) (hi sh : Bool) (hn : n ≤ 1000000)
include hn
set_option maxRecDepth 100000 in
set_option maxHeartbeats 1000000 in
theorem left_ref (hp : p ≤ 8 * n) (w : World) (h : Rf g A n cap b p hi sh w) :
    Calls Try.prog 58 #[.pointer (some ⟨g, 0, none⟩)] w fun e w' => e = .returned (.int .i64 ((8 * n - p : Nat) : Int)) ∧ ∃ m, w' = w.drewN m := by
  have c0 := hp_cell (j := 0) h.box rfl
  have c1 := hp_cell (j := 1) h.box rfl
  have e1 : (8 : Int) * n - p = ((8 * n - p : Nat) : Int) := by omega
  go_enter Try.func58, Try.ntmps58
  go_wp2_with fail
  go_quiet (fail)
  go_wp2
  go_ret
  exact ⟨rfl, _, rfl⟩
set_option maxRecDepth 100000 in
set_option maxHeartbeats 1000000 in
theorem one_ref (hp : p < 8 * n) (hb : ∀ i, b i < 256) (w : World) (h : Rf g A n cap b p hi sh w) :
    Calls Try.prog 59 #[.pointer (some ⟨g, 0, none⟩)] w fun e w' => e = .returned (.int .i64 (bitB hi b p : Nat)) ∧ Chg [g] w w' ∧ Rf g A n cap b (p + 1) hi sh w' := by
  have c0 := hp_cell (j := 0) h.box rfl
  have c1 := hp_cell (j := 1) h.box rfl
  have c2 := hp_cell (j := 2) h.box rfl
  obtain ⟨bk, off, rfl, hlt, hc⟩ := h.byt (by omega)
  have hq := run_quo8 p (by omega)
  have hr := run_rem8 p (by omega)
  have cb := hc (p / 8) (by omega)
  have hlq : p / 8 < n := by omega
  have hof := h.off (by omega) _ rfl
  simp at hof
  have ff := fun j => hp_froz h.box j
  have HR := Lib.hid h
  clear h hc
  have tm : ((p : Nat) : Int).tmod 8 = ((p % 8 : Nat) : Int) := (Int.tmod_eq_emod_of_nonneg (by omega)).trans (by omega)
  cases hi with
  | true =>
    have hbl : b (p / 8) / 2 ^ (7 - p % 8) < 256 := Nat.lt_of_le_of_lt (Nat.div_le_self _ _) (hb _)
    go_enter Try.func59, Try.ntmps59
    go_wp2_with fail
    go_quiet (fail)
    go_wp2
    go_ret
    have hc2 : Chg [g] w ((w.drewN nq).setCell ⟨g, 1, none⟩ (.int .i64 ((p : Int) + 1))) := ((Chg.refl _ w).drewN nq).set (.inl (by simp)) _ _
    exact ⟨ret_i (and1_i64 _ _ hbl), hc2, HR.out.move hc2 (heap_set (W := w.drewN nq) (i := 1) (x := .int .i64 ((p : Int) + 1)) HR.out.box)⟩
  | false =>
    have hbl : b (p / 8) / 2 ^ (p % 8) < 256 := Nat.lt_of_le_of_lt (Nat.div_le_self _ _) (hb _)
    go_enter Try.func59, Try.ntmps59
    go_wp2_with fail
    go_quiet (fail)
    go_wp2
    go_ret
    have hc2 : Chg [g] w ((w.drewN nq).setCell ⟨g, 1, none⟩ (.int .i64 ((p : Int) + 1))) := ((Chg.refl _ w).drewN nq).set (.inl (by simp)) _ _
    exact ⟨ret_i (and1_i64 _ _ hbl), hc2, HR.out.move hc2 (heap_set (W := w.drewN nq) (i := 1) (x := .int .i64 ((p : Int) + 1)) HR.out.box)⟩
set_option maxRecDepth 100000 in
set_option maxHeartbeats 1000000 in
theorem take_refH (hp : p ≤ 8 * n) (hb : ∀ i, b i < 256) (k : Nat) (hk : askB k (8 * n - p) = true) (w : World) (h : Rf g A n cap b p true sh w) :
    Calls Try.prog 49 #[.pointer (some ⟨g, 0, none⟩), .int .i64 (k : Nat)] w fun e w' => e = .returned (.tuple #[.int .i64 (takeB true b p k : Nat), .bool true]) ∧ Chg [g] w w' ∧ Rf g A n cap b (p + k) true sh w' := by
  simp only [askB, decide_eq_true_eq] at hk
  obtain ⟨_, k2, k3⟩ := hk
  have c2 := hp_cell (j := 2) h.box rfl
  have d1 : decide ((k : Int) < 0) = false := decide_eq_false (by omega)
  have d2 : decide (24 < (k : Int)) = false := by simp; omega
  have d3 : decide (8 * n - p < k) = false := by simp; omega
  have hx24 : ∀ j, j < k → -9223372036854775808 ≤ ((takeH b p j : Nat) : Int) * 2 ∧ ((takeH b p j : Nat) : Int) * 2 ≤ 9223372036854775807 := fun j hj => by have := takeH_lt b p j; have := pow24 (k := j) (by omega); omega
  have HX := Lib.hid hx24
  clear hx24
  go_enter Try.func49, Try.ntmps49
  go_wp2_with fail
  refine (left_ref g A n cap b p true sh hn hp _ h).mono ?_
  rintro e w1 ⟨rfl, m, rfl⟩
  have h1 := h.chg ((Chg.refl [] w).drewN m) (by simp) (fun _ _ _ => by simp)
  have HC := Lib.hid ((Chg.refl [g] w).drewN m)
  clear h c2
  go_wp2_with fail
  go_loopw [6, 7] (fun x i wr => ∃ j : Nat, j ≤ k ∧ i = .int .i64 j ∧ x = .int .i64 (takeH b p j : Nat) ∧ Chg [g] w wr ∧ Rf g A n cap b (p + j) true sh wr) (fun _ i _ => k - (intOf i).toNat)
  case atStart => exact ⟨0, by omega, rfl, rfl, HC.out, h1⟩
  case round =>
    obtain ⟨j, hj, rfl, rfl, hC, hR⟩ := hrel
    have b2 := hp_cell (j := 2) hR.box rfl
    by_cases hlt : j < k
    · go_wp2_with fail
      have hxj := HX.out j hlt
      refine (one_ref g A n cap b (p + j) true sh hn (by omega) hb _ hR).mono ?_
      rintro e w2 ⟨rfl, hC2, hR2⟩
      have hbb : bitB true b (p + j) = bitH b (p + j) := rfl
      rw [hbb]
      have HC2 := Lib.hid (hC.trans hC2)
      have HR2 := Lib.hid hR2
      clear hC hC2 hR hR2 b2
      go_wp2_with fail
      go_roundw
      case rel => exact ⟨j + 1, by omega, by go_num, val_i (orH_eq' b p j (by omega)), HC2.out, HR2.out⟩
      case measure => simp [intOf]; omega
    · obtain rfl : j = k := by omega
      go_wp2_with fail
      go_ret2
      exact ⟨rfl, hC, hR⟩
set_option maxRecDepth 100000 in
set_option maxHeartbeats 1000000 in
theorem take_refL (hp : p ≤ 8 * n) (hb : ∀ i, b i < 256) (k : Nat) (hk : askB k (8 * n - p) = true) (w : World) (h : Rf g A n cap b p false sh w) :
    Calls Try.prog 49 #[.pointer (some ⟨g, 0, none⟩), .int .i64 (k : Nat)] w fun e w' => e = .returned (.tuple #[.int .i64 (takeB false b p k : Nat), .bool true]) ∧ Chg [g] w w' ∧ Rf g A n cap b (p + k) false sh w' := by
  simp only [askB, decide_eq_true_eq] at hk
  obtain ⟨_, k2, k3⟩ := hk
  have c2 := hp_cell (j := 2) h.box rfl
  have d1 : decide ((k : Int) < 0) = false := decide_eq_false (by omega)
  have d2 : decide (24 < (k : Int)) = false := by simp; omega
  have d3 : decide (8 * n - p < k) = false := by simp; omega
  go_enter Try.func49, Try.ntmps49
  go_wp2_with fail
  refine (left_ref g A n cap b p false sh hn hp _ h).mono ?_
  rintro e w1 ⟨rfl, m, rfl⟩
  have h1 := h.chg ((Chg.refl [] w).drewN m) (by simp) (fun _ _ _ => by simp)
  have HC := Lib.hid ((Chg.refl [g] w).drewN m)
  clear h c2
  go_wp2_with fail
  go_loopw [6, 7] (fun x i wr => ∃ j : Nat, j ≤ k ∧ i = .int .i64 j ∧ x = .int .i64 (takeL b p j : Nat) ∧ Chg [g] w wr ∧ Rf g A n cap b (p + j) false sh wr) (fun _ i _ => k - (intOf i).toNat)
  case atStart => exact ⟨0, by omega, rfl, rfl, HC.out, h1⟩
  case round =>
    obtain ⟨j, hj, rfl, rfl, hC, hR⟩ := hrel
    have b2 := hp_cell (j := 2) hR.box rfl
    by_cases hlt : j < k
    · go_wp2_with fail
      refine (one_ref g A n cap b (p + j) false sh hn (by omega) hb _ hR).mono ?_
      rintro e w2 ⟨rfl, hC2, hR2⟩
      have hbb : bitB false b (p + j) = bitL b (p + j) := rfl
      rw [hbb]
      have HC2 := Lib.hid (hC.trans hC2)
      have HR2 := Lib.hid hR2
      clear hC hC2 hR hR2 b2
      go_wp2_with fail
      go_roundw
      case rel => exact ⟨j + 1, by omega, by go_num, val_i (orL_eq b p j (by omega)), HC2.out, HR2.out⟩
      case measure => simp [intOf]; omega
    · obtain rfl : j = k := by omega
      go_wp2_with fail
      go_ret2
      exact ⟨rfl, hC, hR⟩
set_option maxRecDepth 100000 in
set_option maxHeartbeats 1000000 in
theorem take_ref_no (hp : p ≤ 8 * n) (k : Int) (hk : askB k (8 * n - p) = false) (w : World) (h : Rf g A n cap b p hi sh w) :
    Calls Try.prog 49 #[.pointer (some ⟨g, 0, none⟩), .int .i64 k] w fun e w' => e = .returned (.tuple #[.int .i64 0, .bool false]) ∧ Chg [g] w w' ∧ Rf g A n cap b p hi true w' := by
  simp only [askB, decide_eq_false_iff_not] at hk
  have c3 := hp_cell (j := 3) h.box rfl
  have ff := fun j => hp_froz h.box j
  have fin : ∀ m, Chg [g] w ((w.drewN m).setCell ⟨g, 3, none⟩ (.bool true)) ∧ Rf g A n cap b p hi true ((w.drewN m).setCell ⟨g, 3, none⟩ (.bool true)) := fun m => by
    have hc2 : Chg [g] w ((w.drewN m).setCell ⟨g, 3, none⟩ (.bool true)) := ((Chg.refl _ w).drewN m).set (.inl (by simp)) _ _
    exact ⟨hc2, h.move hc2 (heap_set (W := w.drewN m) (i := 3) (x := .bool true) h.box)⟩
  have HF := Lib.hid fin
  clear fin
  go_enter Try.func49, Try.ntmps49
  by_cases d1 : k < 0
  · go_wp2
    go_ret2
    exact ⟨rfl, HF.out 0⟩
  by_cases d2 : 24 < k
  · go_wp2
    go_ret2
    exact ⟨rfl, HF.out 0⟩
  have d1 : decide (k < 0) = false := by simp; omega
  have d2 : decide (24 < k) = false := by simp; omega
  go_wp2_with fail
  refine (left_ref g A n cap b p hi sh hn hp _ h).mono ?_
  rintro e w1 ⟨rfl, m, rfl⟩
  have d3 : decide (((8 * n - p : Nat) : Int) < k) = true := by simp; omega
  go_wp2
  go_ret2
  exact ⟨rfl, HF.out m⟩
end
end Go.Proofs.Ytkjlejkcedemlaa
