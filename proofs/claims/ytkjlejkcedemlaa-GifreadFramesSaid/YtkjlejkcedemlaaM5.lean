/- Rows of one's own that slices are appended to; bytes.Clone; new readers. Rows of bytes as strings. engraverlaw1.awake. Align, Bytes of a reader from the lowest bit; the reference's Align; the closures of BitsLow. BitsHigh: the walk. Rows of bytes and of integers that came in. Bits written. Bits written from the highest of each byte on; what was written. What was written, from either end. For BitsEnds, BitsBack, BitsKnown: a writer stays, a new writer, eight bits of a byte. Plain laws of bits: what is put bit by bit, and read again. Plain laws of GIF's code: what codes come to. The width of GIF's codes. -/
import Derived.Test.YtkjlejkcedemlaaM4
import Derived.Deep.RegionHeld3
import Derived.Deep.AppendLies
import Derived.Laws.BytesArg
import Derived.StillTailTactics
import Derived.Lib.SmallJoins
namespace Go.Proofs.Ytkjlejkcedemlaa
set_option maxRecDepth 100000
set_option linter.unusedVariables false
open Go.ChangeShapes Go.WideShapes Go.ChangeAt Go.RowKit
def cells8 (n : Nat) (b : Nat → Nat) : List Value := (List.range n).map fun j => .int .u8 (b j : Nat)
theorem cells8_get (n : Nat) (b : Nat → Nat) (j : Nat) (hj : j < n) : (cells8 n b)[j]? = some (.int .u8 (b j : Nat)) := by simp [cells8, hj]
theorem cells8_one (n : Nat) (b : Nat → Nat) : ∀ u ∈ cells8 n b, u.oneCell' = true := by
  intro u hu
  obtain ⟨j, _, rfl⟩ := List.mem_map.1 hu
  rfl
theorem byt_news {w : World} {A : Option Addr} {n : Nat} {b : Nat → Nat} (h : Byt w A n b) : 0 < n → ∃ bk off, A = some ⟨bk, off, none⟩ ∧ ∀ j u, (cells8 n b)[j]? = some u → w.cell? ⟨bk, off + j, none⟩ = some u := fun hn => by
  obtain ⟨bk, off, rfl, hlt, hc⟩ := h hn
  refine ⟨bk, off, rfl, fun j u hj => ?_⟩
  have hj' : j < n := by have := (List.getElem?_eq_some_iff.1 hj).1; simpa [cells8] using this
  rw [cells8_get n b j hj'] at hj
  rw [hc j hj', hj]
theorem own_empty8 (w : World) : (w.alloc (.cells #[] 5)).ownsRow w.heap.size 5 1 (.slice (some ⟨w.heap.size, 0, none⟩) 0 0) 0 [] :=
  ⟨rfl, .inr ⟨w.heap.size, 0, #[], rfl, Nat.le_refl _, hp_new0 w _, Nat.le_refl _, by simp [maxLen], rfl, rfl⟩⟩
/-- A row of n bytes in a block from B on. -/
structure NewB (B : Nat) (w : World) (n : Nat) (A : Option Addr) (cap : Nat) (b : Nat → Nat) : Prop where
  le : n ≤ cap
  max : cap ≤ maxLen
  nil : A = none → cap = 0
  byt : Byt w A n b
  far : ∀ a, A = some a → B ≤ a.block
  lt : ∀ a, A = some a → a.block < w.heap.size
  form : ∀ a, A = some a → a = ⟨a.block, 0, none⟩
theorem NewB.of_own {B : Nat} {w : World} {n : Nat} {v : Value} {b : Nat → Nat} (h : w.ownsRow B 5 1 v n (cells8 n b)) : ∃ A cap, v = .slice A n cap ∧ NewB B w n A cap b := by
  obtain ⟨hl, hf⟩ := h
  rcases hf with ⟨rfl, rfl⟩ | ⟨g, cap, cur, rfl, hB, hg, hnc, hcm, hcs, ht⟩
  · exact ⟨none, 0, rfl, Nat.le_refl _, by simp [maxLen], fun _ => rfl, fun h => absurd h (by omega), (fun a h => by cases h), (fun a h => by cases h), (fun a h => by cases h)⟩
  · refine ⟨some ⟨g, 0, none⟩, cap, rfl, hnc, hcm, (fun h => by cases h), fun hn => ⟨g, 0, rfl, lt_heap hg, fun j hj => ?_⟩, (fun a h => by cases h; exact hB), (fun a h => by cases h; exact lt_heap hg), (fun a h => by cases h; rfl)⟩
    rw [Nat.zero_add]
    refine hp_cell hg ?_
    have h1 := congrArg (fun l => l[j]?) ht
    simp only [List.getElem?_take, show j < n * 1 by omega, if_true] at h1
    rw [← Array.getElem?_toList, h1, cells8_get n b j hj]
theorem Off.of_far {A : Option Addr} {B : Nat} (h : ∀ a, A = some a → B ≤ a.block) {S : List Nat} (hS : ∀ k ∈ S, k < B) : Off A S := fun a ha hm => by have h1 := h a ha; have h2 := hS _ hm; omega
set_option maxRecDepth 100000 in
set_option maxHeartbeats 1000000 in
theorem clone8 (A : Option Addr) (n cap : Nat) (b : Nat → Nat) (hn : n ≤ cap) (hmax : cap ≤ maxLen) (hz : A = none → cap = 0) (hsmall : n ≤ 1000000) (w : World) (hP : Byt w A n b) :
    Calls Try.prog 66 #[.slice A n cap] w fun e w' => ∃ A' cap', e = .returned (.slice A' n cap') ∧ NewB w.heap.size w' n A' cap' b ∧ Below w.heap.size w w' := by
  obtain ⟨i0, hi, hz0, hz1, hz2⟩ := info_parts info8
  cases A with
  | none =>
    have hc0 := hz rfl
    subst hc0
    obtain rfl : n = 0 := by omega
    have e0 := fun (w : World) => Lib.run_eql_slice_nil (P := Try.prog) w 22 5 none 0 0 0 0 Try.underlying22
    go_enter Try.func66, Try.ntmps66
    go_wp2
    go_ret
    exact ⟨none, 0, rfl, ⟨Nat.le_refl _, by simp [maxLen], fun _ => rfl, fun h => absurd h (by omega), (fun a h => by cases h), (fun a h => by cases h), (fun a h => by cases h)⟩, Below.refl _ _⟩
  | some ad =>
    have e0 := fun (w : World) => Lib.run_eql_slice_nil (P := Try.prog) w 22 5 (some ad) n cap 0 0 Try.underlying22
    go_enter Try.func66, Try.ntmps66
    obtain ⟨v', w2, hrun, hown, hgr, hat⟩ := run_app (P := Try.prog) (w := w.alloc (.cells #[] 5)) w.heap.size 22 22 5 i0 _ 1 1 Try.underlying22 hi hz0 hz1 hz2 rfl (by omega) (.slice (some ⟨w.heap.size, 0, none⟩) 0 0) 0 [] (own_empty8 w) (some ad) n cap (cells8 n b) hz (by simp [cells8]) (byt_news (hP.below ((Below.refl _ _).alloc (Nat.le_refl _) _))) (cells8_one n b) (by unfold maxLen; omega) (by omega) (by simp)
    rw [Nat.zero_add, List.nil_append] at hown
    obtain ⟨A', cap', rfl, hR⟩ := NewB.of_own hown
    have HR := Lib.hid hR
    have HB := Lib.hid (((Below.refl _ w).alloc (Nat.le_refl _) _).grown hgr (by simp) (fun g hg => by cases hg; exact Nat.le_refl _))
    clear hown hgr hat hR
    go_wp2_with (at_builtin; refine wpList_app rfl _ _ 22 rfl _ _ _ w2 rfl rfl hrun ?_)
    go_ret
    exact ⟨_, _, rfl, HR.out, HB.out⟩
set_option maxRecDepth 100000 in
set_option maxHeartbeats 1000000 in
theorem newL (A : Option Addr) (n cap : Nat) (b : Nat → Nat) (hn : n ≤ cap) (hmax : cap ≤ maxLen) (hz : A = none → cap = 0) (hsmall : n ≤ 1000000) (w : World) (hP : Byt w A n b) :
    Calls Try.prog 60 #[.slice A n cap] w fun e w' => ∃ g A' cap', e = .returned (.pointer (some ⟨g, 0, none⟩)) ∧ w.heap.size ≤ g ∧ Rd 117 g A' n cap' b 0 (.slice none 0 0) 0 w' ∧ (∀ a, A' = some a → w.heap.size ≤ a.block ∧ a.block < w'.heap.size) ∧ Below w.heap.size w w' := by
  go_enter Try.func60, Try.ntmps60
  go_wp2_with fail
  refine (clone8 A n cap b hn hmax hz hsmall _ hP).mono ?_
  rintro e w1 ⟨A', cap', rfl, hN, hB⟩
  have HN := Lib.hid hN
  have HB := Lib.hid hB
  clear hN hB
  go_wp2
  go_ret
  refine ⟨w1.heap.size, A', cap', rfl, HB.out.size, ⟨hp_new0 _ _, HN.out.byt.below ((Below.refl _ _).alloc (Nat.le_refl _) _), fun _ a ha => by have := HN.out.lt a ha; simp; omega⟩, fun a ha => ⟨HN.out.far a ha, by have := HN.out.lt a ha; simp; omega⟩, HB.out.alloc HB.out.size _⟩
set_option maxRecDepth 100000 in
set_option maxHeartbeats 1000000 in
theorem newL2 (A : Option Addr) (n cap : Nat) (b : Nat → Nat) (hn : n ≤ cap) (hmax : cap ≤ maxLen) (hz : A = none → cap = 0) (hsmall : n ≤ 1000000) (w : World) (hP : Byt w A n b) :
    Calls Try.prog 60 #[.slice A n cap] w fun e w' => ∃ g A' cap', e = .returned (.pointer (some ⟨g, 0, none⟩)) ∧ w.heap.size ≤ g ∧ Rd 117 g A' n cap' b 0 (.slice none 0 0) 0 w' ∧ (∀ a, A' = some a → w.heap.size ≤ a.block ∧ a.block < w'.heap.size) ∧ (n ≤ cap' ∧ cap' ≤ maxLen ∧ (∀ a, A' = some a → a = ⟨a.block, 0, none⟩) ∧ (A' = none → cap' = 0)) ∧ Below w.heap.size w w' := by
  go_enter Try.func60, Try.ntmps60
  go_wp2_with fail
  refine (clone8 A n cap b hn hmax hz hsmall _ hP).mono ?_
  rintro e w1 ⟨A', cap', rfl, hN, hB⟩
  have HN := Lib.hid hN
  have HB := Lib.hid hB
  clear hN hB
  go_wp2
  go_ret
  refine ⟨w1.heap.size, A', cap', rfl, HB.out.size, ⟨hp_new0 _ _, HN.out.byt.below ((Below.refl _ _).alloc (Nat.le_refl _) _), fun _ a ha => by have := HN.out.lt a ha; simp; omega⟩, fun a ha => ⟨HN.out.far a ha, by have := HN.out.lt a ha; simp; omega⟩, ⟨HN.out.le, HN.out.max, HN.out.form, HN.out.nil⟩, HB.out.alloc HB.out.size _⟩
end Go.Proofs.Ytkjlejkcedemlaa

namespace Go.Proofs.Ytkjlejkcedemlaa
set_option maxRecDepth 100000
set_option linter.unusedVariables false
open Go.ChangeShapes Go.WideShapes Go.ChangeAt Go.RowKit
end Go.Proofs.Ytkjlejkcedemlaa

namespace Go.Proofs.Ytkjlejkcedemlaa
set_option maxRecDepth 100000
set_option linter.unusedVariables false
open Go.ChangeShapes Go.WideShapes Go.ChangeAt Go.RowKit

def b35 (_ : Nat) : Nat := 53
theorem Rd.set {T : TypeId} {g : Nat} {A : Option Addr} {n cap : Nat} {b : Nat → Nat} {p : Nat} {vo : Value} {fr : Int} {w : World} (h : Rd T g A n cap b p vo fr w) {x : Nat} (hx : x ∉ [g]) (ho : 0 < n → ∀ a, A = some a → a.block ≠ x) (i : Nat) (v : Value) : Rd T g A n cap b p vo fr (w.setCell ⟨x, i, none⟩ v) :=
  h.chg ((Chg.refl [x] w).set (.inl (by simp)) i v) (by simp at hx ⊢; omega) (fun hn a ha => by simp; exact ho hn a ha)
theorem b35_lt (i : Nat) : b35 i < 256 := by unfold b35; omega
theorem byt_one (w : World) : Byt (w.alloc (.cells #[.int .u8 53] 5)) (some ⟨w.heap.size, 0, none⟩) 1 b35 := fun _ => ⟨w.heap.size, 0, rfl, by simp, fun j hj => by
  obtain rfl : j = 0 := by omega
  exact hp_cell (hp_new0 _ _) rfl⟩
end Go.Proofs.Ytkjlejkcedemlaa

namespace Go.Proofs.Ytkjlejkcedemlaa
set_option maxRecDepth 100000
set_option linter.unusedVariables false
open Go.ChangeShapes Go.WideShapes Go.ChangeAt Go.RowKit

theorem run_quo8' (p : Nat) (hp : p < 1000000000) : ((p : Int) + 7) / 8 * 8 = (((p + 7) / 8 * 8 : Nat) : Int) := by omega
def up8 (p : Nat) : Nat := (p + 7) / 8 * 8
theorem up8_le {p n : Nat} (h : p ≤ 8 * n) : up8 p ≤ 8 * n := by unfold up8; omega
section
variable (g : Nat) (A : Option Addr) (n cap : Nat) (b : Nat → Nat) (p : Nat) (hn : n ≤ 1000000)
end
end Go.Proofs.Ytkjlejkcedemlaa

namespace Go.Proofs.Ytkjlejkcedemlaa
set_option maxRecDepth 100000
set_option linter.unusedVariables false
open Go.ChangeShapes Go.WideShapes Go.ChangeAt Go.RowKit
/-- Integers lie in w. -/
def Nums (w : World) (A : Option Addr) (m : Nat) (f : Nat → Int) : Prop :=
  0 < m → ∃ bk off, A = some ⟨bk, off, none⟩ ∧ bk < w.heap.size ∧ ∀ j, j < m → w.cell? ⟨bk, off + j, none⟩ = some (.int .i64 (f j))
theorem Nums.below {w w' : World} {A : Option Addr} {n : Nat} {c : Nat → Int} (h : Nums w A n c) (hb : Below w.heap.size w w') : Nums w' A n c := fun hn => by
  obtain ⟨bk, off, rfl, hlt, hc⟩ := h hn
  exact ⟨bk, off, rfl, Nat.lt_of_lt_of_le hlt hb.size, fun j hj => (hb.cell (p := ⟨bk, off + j, none⟩) hlt).trans (hc j hj)⟩

def jOf (q : Value) (W : World) : Nat := match q with
  | .pointer (some a) => match W.cell? a with
    | some v => (intOf v).toNat
    | none => 0
  | _ => 0
theorem jOf_eq {Q j : Nat} {t : TypeId} {W : World} (h : W.heap[Q]? = some (.cells #[.int .i64 (j : Nat)] t (0, 0))) : jOf (.pointer (some ⟨Q, 0, none⟩)) W = j := by
  have := hp_cell (j := 0) h rfl
  simp [jOf, this, intOf]
end Go.Proofs.Ytkjlejkcedemlaa

namespace Go.Proofs.Ytkjlejkcedemlaa
set_option maxRecDepth 100000
set_option linter.unusedVariables false
open Go.ChangeShapes Go.WideShapes Go.ChangeAt Go.RowKit

section
variable {H : Type} {enc : TypeId × Value → H} {P : Program} {w : World}
end
section
variable {H : Type} {enc : TypeId × Value → H} {W : World}
theorem wf8' {a : Int} (h : (Lit.int .u8 a).wf = true) : 0 ≤ a ∧ a ≤ 255 := by
  simpa [Lit.wf, IntKind.min, IntKind.max, IntKind.signed, IntKind.bits] using h
theorem open_bytes {r : Reach} {b0 : Nat} {v : Value} {d : DataW H} {p : List MemPlace} (hv : Value.okWide Try.prog W r b0 22 v) (h : DataW.Trod enc Try.prog W 0 (fun _ => true) true 22 v d p) :
    ∃ A m cap d, v = .slice A m cap ∧ m ≤ cap ∧ cap ≤ maxLen ∧ (A = none → cap = 0) ∧ Byt W A m d ∧ ∀ i, d i < 256 := by
  obtain ⟨a0, len, cap0, rfl⟩ := okWide_slice Try.underlying22 hv
  obtain ⟨fuel, hf⟩ := h
  obtain ⟨n, E, hS, hE, hr, hnone⟩ := open_sl1 Try.underlying22 (size := 1) (by kernel_rfl) (by decide) (v := .slice a0 len cap0) hf
  have hS2 := hS
  obtain ⟨_, A, cap, he, g1, g2, _⟩ := hS2
  cases he
  have h1 : ∀ i, i < len → ∃ m : Nat, E i = [.int .u8 (m : Nat)] ∧ m < 256 := fun i hi => by
    obtain ⟨fuel, y, hy⟩ := hr i hi
    obtain ⟨k, hk, _, hw⟩ := DataW.trod_int Try.underlying5 hy
    obtain ⟨q1, q2⟩ := wf8' hw
    obtain ⟨m, rfl⟩ := Int.eq_ofNat_of_zero_le q1
    exact ⟨m, hk, by omega⟩
  obtain ⟨c, hc⟩ := Go.Deep.choose_lt (α := Nat) h1
  refine ⟨a0, len, cap0, fun i => if i < len then c i else 0, rfl, g1, g2, fun h => by subst h; exact hnone _ _ rfl, fun hn => ?_, fun i => ?_⟩
  · obtain ⟨b, off, rfl, hb, hcell⟩ := hS.cell hn
    refine ⟨b, off, rfl, hb, fun j hj => ?_⟩
    rw [hcell j (by omega)]
    have h2 := flat_get (n := len) E hE j 0 hj (by omega)
    rw [Nat.mul_one, Nat.add_zero] at h2
    rw [h2, (hc j hj).1]
    simp [hj]
  · show (if i < len then c i else 0) < 256
    split
    · exact (hc i ‹_›).2
    · omega
theorem open_nums {r : Reach} {b0 : Nat} {v : Value} {d : DataW H} {p : List MemPlace} (hv : Value.okWide Try.prog W r b0 34 v) (h : DataW.Trod enc Try.prog W 0 (fun _ => true) true 34 v d p) :
    ∃ A m cap f, v = .slice A m cap ∧ m ≤ cap ∧ cap ≤ maxLen ∧ Nums W A m f ∧ ∀ i, In64 (f i) := by
  obtain ⟨n, E, hS, hE, hr⟩ := open_sl Try.underlying34 (size := 1) (by kernel_rfl) (by decide) hv h
  have hS2 := hS
  obtain ⟨_, A, cap, rfl, g1, g2, _⟩ := hS2
  have h1 : ∀ i, i < n → ∃ m : Int, E i = [.int .i64 m] ∧ In64 m := fun i hi => by
    obtain ⟨fuel, y, hy⟩ := hr i hi
    obtain ⟨k, hk, _, hw⟩ := DataW.trod_int Try.underlying3 hy
    exact ⟨k, hk, wf64 hw⟩
  obtain ⟨c, hc⟩ := Go.Deep.choose_lt (α := Int) h1
  refine ⟨A, n, cap, fun i => if i < n then c i else 0, rfl, g1, g2, fun hn => ?_, fun i => ?_⟩
  · obtain ⟨b, off, rfl, hb, hcell⟩ := hS.cell hn
    refine ⟨b, off, rfl, hb, fun j hj => ?_⟩
    rw [hcell j (by omega)]
    have h2 := flat_get (n := n) E hE j 0 hj (by omega)
    rw [Nat.mul_one, Nat.add_zero] at h2
    rw [h2, (hc j hj).1]
    simp [hj]
  · show In64 (if i < n then c i else 0)
    split
    · exact (hc i ‹_›).2
    · unfold In64; omega
end
end Go.Proofs.Ytkjlejkcedemlaa

namespace Go.Proofs.Ytkjlejkcedemlaa
set_option maxRecDepth 100000
set_option linter.unusedVariables false
open Go.ChangeShapes Go.WideShapes Go.ChangeAt Go.RowKit
/-- What a writer holds: its bytes, how many bits of the last are free; ob: its row's block. -/
structure Wr (T : TypeId) (g : Nat) (iv : Value) (at_ : Int) (o : List Nat) (fr : Nat) (ob : Option Nat) (W : World) : Prop where
  row : ∃ vo, W.heap[g]? = some (.cells #[iv, vo, .int .i64 at_, .int .i64 (fr : Nat)] T (0, 0)) ∧ W.ownsRow (g + 1) 5 1 vo o.length (cellsB o) ∧ vo.ownBlock = ob
  fr8 : fr < 8
  full : 0 < fr → 0 < o.length
  lt : ∀ x ∈ o, x < 256
def roomO (o : List Nat) (fr : Nat) : List Nat := if fr = 0 then o ++ [0] else o
def roomF (fr : Nat) : Nat := if fr = 0 then 7 else fr - 1
/-- v laid over the last byte. -/
def orLast (o : List Nat) (v : Nat) : List Nat := o.set (o.length - 1) ((o[o.length - 1]?).getD 0 ||| v)
def bitX (x : Int) (i : Nat) : Nat := ((x / 2 ^ i) % 2).toNat
theorem bitX_lt (x : Int) (i : Nat) : bitX x i < 2 := by unfold bitX; omega
def stepL (x : Int) (i : Nat) (o : List Nat) (fr : Nat) : List Nat := orLast (roomO o fr) (bitX x i * 2 ^ (7 - roomF fr))
/-- The bytes behind k bits. -/
def putsL (x : Int) (o : List Nat) (fr : Nat) : Nat → List Nat × Nat
  | 0 => (o, fr)
  | k + 1 => (stepL x k (putsL x o fr k).1 (putsL x o fr k).2, roomF (putsL x o fr k).2)
theorem roomO_len (o : List Nat) (fr : Nat) : (roomO o fr).length ≤ o.length + 1 := by unfold roomO; split <;> simp
theorem puts_len (x : Int) (o : List Nat) (fr : Nat) (k : Nat) : (putsL x o fr k).1.length ≤ o.length + k := by
  induction k with
  | zero => simp [putsL]
  | succ k ih =>
    have h := roomO_len (putsL x o fr k).1 (putsL x o fr k).2
    simp only [putsL, stepL, orLast, List.length_set]
    omega
end Go.Proofs.Ytkjlejkcedemlaa

namespace Go.Proofs.Ytkjlejkcedemlaa
set_option maxRecDepth 100000
set_option linter.unusedVariables false
open Go.ChangeShapes Go.WideShapes Go.ChangeAt Go.RowKit

/-- The bytes behind k bits. -/
def stepH (x : Int) (i : Nat) (o : List Nat) (fr : Nat) : List Nat := orLast (roomO o fr) (bitX x i * 2 ^ roomF fr)
def putsH (x : Int) (n : Nat) (o : List Nat) (fr : Nat) : Nat → List Nat × Nat
  | 0 => (o, fr)
  | k + 1 => (stepH x (n - 1 - k) (putsH x n o fr k).1 (putsH x n o fr k).2, roomF (putsH x n o fr k).2)
theorem puth_len (x : Int) (n : Nat) (o : List Nat) (fr : Nat) (k : Nat) : (putsH x n o fr k).1.length ≤ o.length + k := by
  induction k with
  | zero => simp [putsH]
  | succ k ih =>
    have h := roomO_len (putsH x n o fr k).1 (putsH x n o fr k).2
    simp only [putsH, stepH, orLast, List.length_set]
    omega
end Go.Proofs.Ytkjlejkcedemlaa

namespace Go.Proofs.Ytkjlejkcedemlaa
set_option maxRecDepth 100000
set_option linter.unusedVariables false
open Go.ChangeShapes Go.WideShapes Go.ChangeAt Go.RowKit

theorem byt_of_row {w : World} {base : Nat} {v : Value} {o : List Nat} (h : w.ownsRow base 5 1 v o.length (cellsB o)) : ∃ A cap, v = .slice A o.length cap ∧ o.length ≤ cap ∧ cap ≤ maxLen ∧ (A = none → cap = 0) ∧ Byt w A o.length (fun i => (o[i]?).getD 0) := by
  obtain ⟨hl, hf⟩ := h
  rcases hf with ⟨rfl, h0⟩ | ⟨g, cap, cur, rfl, hB, hg, hnc, hcm, hcs, ht⟩
  · have h1 : o.length = 0 := h0
    exact ⟨none, 0, by rw [h1], by omega, by simp [maxLen], fun _ => rfl, fun h => absurd h (by omega)⟩
  · refine ⟨some ⟨g, 0, none⟩, cap, rfl, hnc, hcm, (fun h => by cases h), fun hn => ⟨g, 0, rfl, lt_heap hg, fun j hj => ?_⟩⟩
    rw [Nat.zero_add]
    refine hp_cell hg ?_
    have h1 := congrArg (fun l => l[j]?) ht
    simp only [List.getElem?_take, show j < o.length * 1 by omega, if_true] at h1
    rw [← Array.getElem?_toList, h1]
    simp [cellsB, hj]
end Go.Proofs.Ytkjlejkcedemlaa

namespace Go.Proofs.Ytkjlejkcedemlaa
set_option maxRecDepth 100000
set_option linter.unusedVariables false
open Go.ChangeShapes Go.WideShapes Go.ChangeAt Go.RowKit
theorem Wr.chg {T : TypeId} {g : Nat} {iv : Value} {at_ : Int} {o : List Nat} {fr : Nat} {ob : Option Nat} {w w' : World} {S : List Nat} (h : Wr T g iv at_ o fr ob w) (hc : Chg S w w') (hg : g ∉ S) (hob : ∀ k, ob = some k → k ∉ S) : Wr T g iv at_ o fr ob w' := by
  obtain ⟨⟨vo, hb, hown, he⟩, h8, hfu, hlt⟩ := h
  exact ⟨⟨vo, hp_chg hb hc hg, own_chg hown hc (fun k hk => hob k (he.symm.trans hk)), he⟩, h8, hfu, hlt⟩
theorem Wr.of_new {T : TypeId} {g : Nat} {A : Option Addr} {n cap : Nat} {b : Nat → Nat} {w : World} (h : Rd T g A n cap b 0 (.slice none 0 0) 0 w) : Wr T g (.slice A n cap) 0 [] 0 none w :=
  ⟨⟨.slice none 0 0, h.box, World.ownsRow_nil _ _ _ _, rfl⟩, by omega, fun h => absurd h (by omega), fun x hx => by simp at hx⟩
theorem takeH_byte (b : Nat → Nat) (h : b 0 < 256) : takeH b 0 8 = b 0 := by
  simp only [takeH, bitH]
  simp
  omega
set_option maxRecDepth 100000 in
theorem putsH_fin : ∀ z : Fin 256, putsH (z.val : Int) 8 [] 0 8 = ([z.val], 0) := by decide +kernel
theorem putsH_byte (z : Nat) (h : z < 256) : putsH (z : Int) 8 [] 0 8 = ([z], 0) := putsH_fin ⟨z, h⟩
set_option maxRecDepth 100000 in
theorem putsL_fin : ∀ z : Fin 256, putsL (z.val : Int) [] 0 8 = ([z.val], 0) := by decide +kernel
theorem putsL_byte (z : Nat) (h : z < 256) : putsL (z : Int) [] 0 8 = ([z], 0) := putsL_fin ⟨z, h⟩
/-- A byte's bits the other way round, the first i of them. -/
def turnF (v : Nat) : Nat → Nat
  | 0 => 0
  | i + 1 => 2 * turnF v i + v / 2 ^ i % 2
theorem turnF_lt (v i : Nat) : turnF v i < 2 ^ i := by
  induction i with
  | zero => simp [turnF]
  | succ i ih =>
    have h : v / 2 ^ i % 2 < 2 := Nat.mod_lt _ (by omega)
    rw [turnF, Nat.pow_succ]
    omega
theorem takeL_one (b : Nat → Nat) (p : Nat) : takeL b p 1 = bitL b p := by simp [takeL]
end Go.Proofs.Ytkjlejkcedemlaa

namespace Go.Proofs.Ytkjlejkcedemlaa
set_option maxRecDepth 100000
set_option linter.unusedVariables false

/-- A bit put behind what was put. -/
def posB (hi : Bool) (r : Nat) : Nat := if hi = true then r else 7 - r
def addB (hi : Bool) (s : List Nat × Nat) (v : Nat) : List Nat × Nat := (orLast (roomO s.1 s.2) (v * 2 ^ posB hi (roomF s.2)), roomF s.2)
/-- Bits, packed. -/
def pack (hi : Bool) (l : List Nat) : List Nat × Nat := l.foldl (addB hi) ([], 0)
theorem pack_append (hi : Bool) (l m : List Nat) : pack hi (l ++ m) = m.foldl (addB hi) (pack hi l) := by simp [pack]
theorem pack_snoc (hi : Bool) (l : List Nat) (v : Nat) : pack hi (l ++ [v]) = addB hi (pack hi l) v := by simp [pack]
/-- A number's bits in the order in which they are put. -/
def numB (hi : Bool) (x : Int) (n : Nat) : List Nat := (List.range n).map fun i => bitX x (if hi = true then n - 1 - i else i)
theorem numB_len (hi : Bool) (x : Int) (n : Nat) : (numB hi x n).length = n := by simp [numB]
theorem numB_lt (hi : Bool) (x : Int) (n : Nat) : ∀ v ∈ numB hi x n, v < 2 := by
  intro v hv
  obtain ⟨i, _, rfl⟩ := List.mem_map.1 hv
  exact bitX_lt _ _
theorem numB_get (hi : Bool) (x : Int) (n i : Nat) (h : i < n) : (numB hi x n)[i]? = some (bitX x (if hi = true then n - 1 - i else i)) := by simp [numB, h]
theorem putsL_fold (x : Int) (o : List Nat) (fr k : Nat) : putsL x o fr k = (numB false x k).foldl (addB false) (o, fr) := by
  induction k with
  | zero => rfl
  | succ k ih =>
    have e : numB false x (k + 1) = numB false x k ++ [bitX x k] := by simp [numB, List.range_succ]
    rw [putsL, ih, e, List.foldl_append]
    rfl
theorem putsH_fold' (x : Int) (n : Nat) (o : List Nat) (fr k : Nat) : putsH x n o fr k = ((List.range k).map fun i => bitX x (n - 1 - i)).foldl (addB true) (o, fr) := by
  induction k with
  | zero => rfl
  | succ k ih =>
    rw [putsH, ih, List.range_succ, List.map_append, List.foldl_append]
    rfl
theorem putsH_fold (x : Int) (o : List Nat) (fr n : Nat) : putsH x n o fr n = (numB true x n).foldl (addB true) (o, fr) := putsH_fold' x n o fr n
theorem putsL_pack (l : List Nat) (x : Int) (n : Nat) : putsL x (pack false l).1 (pack false l).2 n = pack false (l ++ numB false x n) := by rw [putsL_fold, pack_append]
theorem putsH_pack (l : List Nat) (x : Int) (n : Nat) : putsH x n (pack true l).1 (pack true l).2 n = pack true (l ++ numB true x n) := by rw [putsH_fold, pack_append]
theorem orLast_len (o : List Nat) (v : Nat) : (orLast o v).length = o.length := by simp [orLast]
theorem pack_shape (hi : Bool) (l : List Nat) (n : Nat) (hn : n ≤ l.length) : (pack hi (l.take n)).1.length = (n + 7) / 8 ∧ (pack hi (l.take n)).2 = (8 - n % 8) % 8 := by
  induction n with
  | zero => simp [pack]
  | succ n ih =>
    obtain ⟨h1, h2⟩ := ih (by omega)
    rw [List.take_add_one, List.getElem?_eq_getElem (by omega), Option.toList_some, pack_snoc]
    simp only [addB, orLast_len, roomO, roomF, h2]
    by_cases h : n % 8 = 0
    · rw [if_pos (by omega), if_pos (by omega)]
      simp only [List.length_append, List.length_singleton, h1]
      omega
    · rw [if_neg (by omega), if_neg (by omega), h1]
      omega
theorem pack_len (hi : Bool) (l : List Nat) : (pack hi l).1.length = (l.length + 7) / 8 := by
  have h := (pack_shape hi l l.length (Nat.le_refl _)).1
  rwa [List.take_length] at h
theorem pack_room (hi : Bool) (l : List Nat) (n : Nat) (hn : n ≤ l.length) : roomF (pack hi (l.take n)).2 = 7 - n % 8 ∧ (roomO (pack hi (l.take n)).1 (pack hi (l.take n)).2).length = n / 8 + 1 := by
  obtain ⟨h1, h2⟩ := pack_shape hi l n hn
  simp only [roomO, roomF, h2]
  by_cases h : n % 8 = 0
  · rw [if_pos (by omega), if_pos (by omega)]
    simp only [List.length_append, List.length_singleton, h1]
    omega
  · rw [if_neg (by omega), if_neg (by omega), h1]
    omega
theorem pack_step (hi : Bool) (l : List Nat) (n : Nat) (hn : n < l.length) :
    (pack hi (l.take (n + 1))).1 = (roomO (pack hi (l.take n)).1 (pack hi (l.take n)).2).set (n / 8) (((roomO (pack hi (l.take n)).1 (pack hi (l.take n)).2)[n / 8]?).getD 0 ||| l[n] * 2 ^ posB hi (7 - n % 8)) := by
  obtain ⟨h1, h2⟩ := pack_room hi l n (by omega)
  rw [List.take_add_one, List.getElem?_eq_getElem (by omega), Option.toList_some, pack_snoc]
  simp only [addB, orLast, h1, h2, Nat.add_sub_cancel]
/-- The bytes of the first i bits, and noughts behind them. -/
def outR (hi : Bool) (l : List Nat) (i : Nat) : List Nat := (pack hi (l.take i)).1 ++ List.replicate ((l.length + 7) / 8 - (i + 7) / 8) 0
theorem outR_room (hi : Bool) (l : List Nat) (i : Nat) (hi' : i < l.length) : outR hi l i = roomO (pack hi (l.take i)).1 (pack hi (l.take i)).2 ++ List.replicate ((l.length + 7) / 8 - (i + 8) / 8) 0 := by
  obtain ⟨h1, h2⟩ := pack_shape hi l i (by omega)
  unfold outR roomO
  by_cases h : i % 8 = 0
  · rw [if_pos (by omega), List.append_assoc]
    congr 1
    rw [show (l.length + 7) / 8 - (i + 7) / 8 = ((l.length + 7) / 8 - (i + 8) / 8) + 1 by omega, List.replicate_succ]
    rfl
  · rw [if_neg (by omega), show (i + 8) / 8 = (i + 7) / 8 by omega]
theorem outR_len (hi : Bool) (l : List Nat) (i : Nat) (h : i ≤ l.length) : (outR hi l i).length = (l.length + 7) / 8 := by
  unfold outR
  rw [List.length_append, (pack_shape hi l i h).1, List.length_replicate]
  omega
theorem outR_step (hi : Bool) (l : List Nat) (i : Nat) (h : i < l.length) : outR hi l (i + 1) = (outR hi l i).set (i / 8) (((outR hi l i)[i / 8]?).getD 0 ||| l[i] * 2 ^ posB hi (7 - i % 8)) := by
  obtain ⟨h1, h2⟩ := pack_room hi l i (by omega)
  have e := outR_room hi l i h
  rw [e, List.set_append_left _ _ (by omega), List.getElem?_append_left (by omega)]
  unfold outR
  rw [pack_step hi l i h]
theorem outR_zero (hi : Bool) (l : List Nat) : outR hi l 0 = List.replicate ((l.length + 7) / 8) 0 := by simp [outR, pack]
theorem outR_all (hi : Bool) (l : List Nat) : outR hi l l.length = (pack hi l).1 := by simp [outR]
theorem mul_pow_testBit (v q p : Nat) (hv : v < 2) : (v * 2 ^ q).testBit p = (decide (p = q) && decide (v = 1)) := by
  have h : v = 0 ∨ v = 1 := by omega
  rcases h with rfl | rfl
  · simp
  · rw [Nat.one_mul, Nat.testBit_two_pow]
    simp [eq_comm]
theorem roomO_get (o : List Nat) (fr j : Nat) : ((roomO o fr)[j]?).getD 0 = (o[j]?).getD 0 := by
  unfold roomO
  split
  · by_cases h : j < o.length
    · rw [List.getElem?_append_left h]
    · by_cases h2 : j = o.length
      · subst h2
        simp
      · rw [List.getElem?_eq_none (by simp; omega), List.getElem?_eq_none (by omega)]
  · rfl
theorem posB_inj {hi : Bool} {a b : Nat} (ha : a < 8) (hb : b < 8) : posB hi (7 - a) = posB hi (7 - b) ↔ a = b := by
  unfold posB
  split <;> omega
theorem pack_bit (hi : Bool) (l : List Nat) (hl : ∀ v ∈ l, v < 2) (n : Nat) (hn : n ≤ l.length) (k : Nat) :
    (((pack hi (l.take n)).1[k / 8]?).getD 0).testBit (posB hi (7 - k % 8)) = decide (k < n ∧ l[k]? = some 1) := by
  induction n with
  | zero => simp [pack]
  | succ n ih =>
    have ih := ih (by omega)
    have hv : l[n] < 2 := hl _ (List.getElem_mem _)
    have hlen := (pack_room hi l n (by omega)).2
    rw [pack_step hi l n (by omega)]
    by_cases hk : k / 8 = n / 8
    · rw [hk, List.getElem?_set_self (by omega), Option.getD_some, Nat.testBit_or, roomO_get, ← hk, ih, mul_pow_testBit _ _ _ hv]
      by_cases he : k = n
      · subst he
        have h0 : k < l.length := by omega
        simp [h0]
      · have h0 : ¬ posB hi (7 - k % 8) = posB hi (7 - n % 8) := by
          rw [posB_inj (by omega) (by omega)]
          omega
        have h1 : (k < n ∧ l[k]? = some 1) ↔ (k < n + 1 ∧ l[k]? = some 1) := ⟨fun h => ⟨by omega, h.2⟩, fun h => ⟨by omega, h.2⟩⟩
        simp only [h0, decide_false, Bool.false_and, Bool.or_false, h1]
    · rw [List.getElem?_set_ne (Ne.symm hk), roomO_get, ih]
      have h1 : (k < n ∧ l[k]? = some 1) ↔ (k < n + 1 ∧ l[k]? = some 1) := ⟨fun h => ⟨by omega, h.2⟩, fun h => ⟨by
        have := h.1
        have : k ≠ n := fun e => hk (by rw [e])
        omega, h.2⟩⟩
      simp only [h1]
theorem bitB_test (hi : Bool) (b : Nat → Nat) (k : Nat) : bitB hi b k = ((b (k / 8)).testBit (posB hi (7 - k % 8))).toNat := by
  have h : posB hi (7 - k % 8) = if hi = true then 7 - k % 8 else k % 8 := by unfold posB; split <;> omega
  rw [h, Nat.testBit_eq_decide_div_mod_eq]
  unfold bitB bitH bitL
  split
  · generalize b (k / 8) / 2 ^ (7 - k % 8) = y
    rcases Nat.mod_two_eq_zero_or_one y with h | h <;> simp [h]
  · generalize b (k / 8) / 2 ^ (k % 8) = y
    rcases Nat.mod_two_eq_zero_or_one y with h | h <;> simp [h]
/-- The bits of what was packed. -/
theorem pack_get (hi : Bool) (l : List Nat) (hl : ∀ v ∈ l, v < 2) (k : Nat) (hk : k < l.length) : bitB hi (fun i => ((pack hi l).1[i]?).getD 0) k = l[k] := by
  have h := pack_bit hi l hl l.length (Nat.le_refl _) k
  rw [List.take_length] at h
  rw [bitB_test, h]
  have hv : l[k] < 2 := hl _ (List.getElem_mem _)
  have h2 : l[k] = 0 ∨ l[k] = 1 := by omega
  rcases h2 with h2 | h2 <;> simp [hk, h2]
theorem pack_lt (hi : Bool) (l : List Nat) (hl : ∀ v ∈ l, v < 2) (n : Nat) (hn : n ≤ l.length) : ∀ v ∈ (pack hi (l.take n)).1, v < 256 := by
  induction n with
  | zero => simp [pack]
  | succ n ih =>
    have ih := ih (by omega)
    have hv : l[n] < 2 := hl _ (List.getElem_mem _)
    rw [pack_step hi l n (by omega)]
    have hr : ∀ v ∈ roomO (pack hi (l.take n)).1 (pack hi (l.take n)).2, v < 256 := by
      intro v hv
      unfold roomO at hv
      split at hv
      · rcases List.mem_append.1 hv with h | h
        · exact ih v h
        · simp at h
          omega
      · exact ih v hv
    intro v hm
    rcases List.mem_or_eq_of_mem_set hm with h | rfl
    · exact hr v h
    · refine Nat.or_lt_two_pow (n := 8) ?_ ?_
      · cases h : (roomO (pack hi (l.take n)).1 (pack hi (l.take n)).2)[n / 8]? with
        | none => simp
        | some u => exact hr u (List.mem_of_getElem? h)
      · have h1 : posB hi (7 - n % 8) ≤ 7 := by unfold posB; split <;> omega
        have h2 : 2 ^ posB hi (7 - n % 8) ≤ 2 ^ 7 := Nat.pow_le_pow_right (by omega) h1
        have h3 : l[n] * 2 ^ posB hi (7 - n % 8) ≤ 1 * 2 ^ posB hi (7 - n % 8) := Nat.mul_le_mul_right _ (by omega)
        omega
theorem pack_lt' (hi : Bool) (l : List Nat) (hl : ∀ v ∈ l, v < 2) : ∀ v ∈ (pack hi l).1, v < 256 := by
  have h := pack_lt hi l hl l.length (Nat.le_refl _)
  rwa [List.take_length] at h
theorem getD_lt {o : List Nat} (h : ∀ v ∈ o, v < 256) (i : Nat) : (o[i]?).getD 0 < 256 := by
  cases he : o[i]? with
  | none => simp
  | some u => exact h u (List.mem_of_getElem? he)
theorem emod_step (x a : Int) (ha : 0 < a) : x % (a * 2) = x % a + a * (x / a % 2) := by
  have h1 := Int.mul_ediv_add_emod x a
  have h2 := Int.emod_nonneg x (Int.ne_of_gt ha)
  have h3 := Int.emod_lt_of_pos x ha
  generalize x / a = q at *
  generalize x % a = r at *
  obtain ⟨m, t, rfl, ht⟩ : ∃ m t : Int, q = 2 * m + t ∧ (t = 0 ∨ t = 1) := ⟨q / 2, q % 2, by omega, by omega⟩
  have h4 : (2 * m + t) % 2 = t := by omega
  have e : x = (r + a * t) + (a * 2) * m := by rw [← h1, Int.mul_add, Int.mul_assoc]; omega
  rw [h4, e, Int.add_mul_emod_self_left]
  refine Int.emod_eq_of_lt ?_ ?_ <;> rcases ht with rfl | rfl <;> omega
/-- Numbers out of bits. -/
theorem takeL_num (b : Nat → Nat) (p : Nat) (x : Int) (n : Nat) (h : ∀ i, i < n → bitL b (p + i) = bitX x i) : ((takeL b p n : Nat) : Int) = x % 2 ^ n := by
  induction n with
  | zero => simp [takeL]
  | succ n ih =>
    rw [takeL, Int.natCast_add, ih (fun i hi => h i (by omega)), h n (by omega), Int.natCast_mul]
    unfold bitX
    have h1 : (0 : Int) ≤ x / 2 ^ n % 2 := Int.emod_nonneg _ (by omega)
    rw [Int.toNat_of_nonneg h1]
    have e : x % 2 ^ (n + 1) = x % 2 ^ n + 2 ^ n * (x / 2 ^ n % 2) := by
      rw [Int.pow_succ]
      exact emod_step x _ (Int.pow_pos (by omega))
    rw [e, Int.mul_comm (2 ^ n)]
    simp
theorem emod_two (y z : Int) (hz : 0 < z) : y % (2 * z) = 2 * (y / 2 % z) + y % 2 := by
  have h1 := Int.mul_ediv_add_emod (y / 2) z
  have h2 := Int.emod_nonneg (y / 2) (Int.ne_of_gt hz)
  have h3 := Int.emod_lt_of_pos (y / 2) hz
  generalize y / 2 / z = q at *
  generalize hr : y / 2 % z = r at *
  have e : y = (2 * r + y % 2) + (2 * z) * q := by rw [Int.mul_assoc]; omega
  have e2 : y % (2 * z) = ((2 * r + y % 2) + (2 * z) * q) % (2 * z) := by rw [← e]
  rw [e2, Int.add_mul_emod_self_left]
  exact Int.emod_eq_of_lt (by omega) (by omega)
theorem takeH_num (b : Nat → Nat) (p : Nat) (x : Int) (n k : Nat) (hk : k ≤ n) (h : ∀ i, i < n → bitH b (p + i) = bitX x (n - 1 - i)) : ((takeH b p k : Nat) : Int) = x / 2 ^ (n - k) % 2 ^ k := by
  induction k with
  | zero => simp [takeH, Int.emod_one]
  | succ k ih =>
    rw [takeH, Int.natCast_add, Int.natCast_mul, ih (by omega), h k (by omega)]
    unfold bitX
    have h1 : (0 : Int) ≤ x / 2 ^ (n - 1 - k) % 2 := Int.emod_nonneg _ (by omega)
    rw [Int.toNat_of_nonneg h1, show n - 1 - k = n - (k + 1) by omega]
    have e2 : x / 2 ^ (n - k) = x / 2 ^ (n - (k + 1)) / 2 := by
      rw [show n - k = (n - (k + 1)) + 1 by omega, Int.pow_succ, Int.ediv_ediv_of_nonneg (Int.pow_nonneg (by omega))]
    rw [e2]
    generalize x / 2 ^ (n - (k + 1)) = y
    have h9 : (0 : Int) < 2 ^ k := Int.pow_pos (by omega)
    rw [Int.pow_succ, Int.mul_comm (2 ^ k) 2]
    generalize (2 : Int) ^ k = z at *
    have e3 := emod_two y z h9
    omega
theorem takeH_num' (b : Nat → Nat) (p : Nat) (x : Int) (n : Nat) (h : ∀ i, i < n → bitH b (p + i) = bitX x (n - 1 - i)) : ((takeH b p n : Nat) : Int) = x % 2 ^ n := by
  have := takeH_num b p x n n (Nat.le_refl _) h
  simpa using this
end Go.Proofs.Ytkjlejkcedemlaa

namespace Go.Proofs.Ytkjlejkcedemlaa
set_option maxRecDepth 100000
set_option linter.unusedVariables false

/-- Where a reader of codes stands: bits read, a code's bits, the rows made, the row ahead, what is out. -/
structure Cz where
  p : Nat
  wd : Nat
  rows : List (List Nat)
  last : Option (List Nat)
  out : List Nat
/-- May this code not be? -/
def badC (cl : Nat) (rows : List (List Nat)) (last : Option (List Nat)) (c : Nat) : Bool := !decide (c < cl) && (last.isNone || decide (cl + 2 + rows.length < c))
/-- A code's row. -/
def rowC (cl : Nat) (rows : List (List Nat)) (last : Option (List Nat)) (c : Nat) : List Nat :=
  if c < cl then [c] else if c = cl + 2 + rows.length then last.getD [] ++ [(last.getD []).headD 0] else (rows[c - cl - 2]?).getD []
/-- The rows behind it. -/
def rowsC (cl : Nat) (rows : List (List Nat)) (last : Option (List Nat)) (row : List Nat) : List (List Nat) :=
  if last.isSome = true ∧ cl + 2 + rows.length < 4096 then rows ++ [last.getD [] ++ [row.headD 0]] else rows
/-- A code's bits behind it. -/
def wideC (cl wd : Nat) (rows : List (List Nat)) (last : Option (List Nat)) : Nat :=
  if (last.isSome = true ∧ cl + 2 + rows.length < 4096) ∧ cl + 2 + rows.length + 1 = 2 ^ wd ∧ wd < 12 then wd + 1 else wd
def Cz.reset (s : Cz) (sz : Nat) : Cz := ⟨s.p + s.wd, sz + 1, [], none, s.out⟩
def Cz.step (s : Cz) (cl : Nat) (row : List Nat) : Cz := ⟨s.p + s.wd, wideC cl s.wd s.rows s.last, rowsC cl s.rows s.last row, some row, s.out ++ row⟩
/-- What the codes come to: the values, or the first error. -/
def finC (b : Nat → Nat) (n cl sz most : Nat) : Nat → Cz → List Nat × Nat
  | 0, _ => ([], 2)
  | k + 1, s =>
    if 8 * n < s.p + s.wd then ([], 2)
    else if takeL b s.p s.wd = cl then finC b n cl sz most k (s.reset sz)
    else if takeL b s.p s.wd = cl + 1 then (s.out, 0)
    else if badC cl s.rows s.last (takeL b s.p s.wd) = true then ([], 4)
    else if most < s.out.length + (rowC cl s.rows s.last (takeL b s.p s.wd)).length then ([], 6)
    else finC b n cl sz most k (s.step cl (rowC cl s.rows s.last (takeL b s.p s.wd)))
def cz0 (sz : Nat) : Cz := ⟨0, sz + 1, [], none, []⟩
/-- All of it: bytes, a size, a limit. -/
def lzwV (b : Nat → Nat) (n : Nat) (size most : Int) : List Nat × Nat :=
  if size < 2 ∨ 8 < size ∨ most < 0 then ([], 1) else finC b n (2 ^ size.toNat) size.toNat most.toNat (8 * n + 1) (cz0 size.toNat)

/-- A row that may be. -/
def RowOk (m : Nat) (l : List Nat) : Prop := l ≠ [] ∧ l.length ≤ m ∧ ∀ v ∈ l, v < 256
structure GoodC (n cl sz : Nat) (s : Cz) : Prop where
  clv : cl = 2 ^ sz
  sz2 : 2 ≤ sz
  sz8 : sz ≤ 8
  wd1 : 3 ≤ s.wd
  wd2 : s.wd ≤ 12
  p : s.p ≤ 8 * n
  full : cl + 2 + s.rows.length ≤ 4096
  rows : ∀ i l, s.rows[i]? = some l → RowOk (i + 2) l
  last : ∀ l, s.last = some l → RowOk (s.rows.length + 1) l
  none : s.last = none → s.rows = []
  out : ∀ v ∈ s.out, v < 256
theorem RowOk.mono {m m' : Nat} {l : List Nat} (h : RowOk m l) (hm : m ≤ m') : RowOk m' l := ⟨h.1, Nat.le_trans h.2.1 hm, h.2.2⟩
theorem cl_le {n cl sz : Nat} {s : Cz} (h : GoodC n cl sz s) : 4 ≤ cl ∧ cl ≤ 256 := by
  have h1 := h.sz2
  have h2 := h.sz8
  rw [h.clv]
  exact ⟨Nat.pow_le_pow_right (n := 2) (i := 2) (by omega) h1, Nat.pow_le_pow_right (n := 2) (j := 8) (by omega) h2⟩
theorem head_lt {m : Nat} {l : List Nat} (h : RowOk m l) : l.headD 0 < 256 := by
  obtain ⟨h1, _, h3⟩ := h
  cases l with
  | nil => exact absurd rfl h1
  | cons a t => exact h3 a (by simp)
theorem rowC_ok {n cl sz : Nat} {s : Cz} (h : GoodC n cl sz s) (c : Nat) (hc : c ≠ cl) (hc1 : c ≠ cl + 1) (hb : badC cl s.rows s.last c = false) :
    RowOk (s.rows.length + 2) (rowC cl s.rows s.last c) ∧ (∀ l, s.last = some l → c ≠ cl + 2 + s.rows.length → RowOk (s.rows.length + 1) (rowC cl s.rows s.last c)) ∧ (s.last = none → RowOk 1 (rowC cl s.rows s.last c)) := by
  have hcl := cl_le h
  unfold badC at hb
  unfold rowC
  by_cases h1 : c < cl
  · rw [if_pos h1]
    have : RowOk 1 [c] := ⟨by simp, by simp, by simp; omega⟩
    exact ⟨this.mono (by omega), fun _ _ _ => this.mono (by omega), fun _ => this⟩
  · rw [if_neg h1]
    simp only [h1, decide_false, Bool.not_false, Bool.true_and, Bool.or_eq_false_iff, decide_eq_false_iff_not] at hb
    obtain ⟨hl, hn⟩ := hb
    cases hlast : s.last with
    | none => rw [hlast] at hl; cases hl
    | some l =>
      have hok := h.last l hlast
      by_cases h2 : c = cl + 2 + s.rows.length
      · rw [if_pos h2]
        have h3 := head_lt hok
        refine ⟨⟨by simp, ?_, ?_⟩, fun _ _ h => absurd h2 h, fun h => by cases h⟩
        · have := hok.2.1
          simp
          omega
        · intro v hv
          simp only [Option.getD_some] at hv
          rcases List.mem_append.1 hv with hv | hv
          · exact hok.2.2 v hv
          · rw [List.mem_singleton.1 hv]; simpa using h3
      · rw [if_neg h2]
        have hlt : c - cl - 2 < s.rows.length := by omega
        have hg := List.getElem?_eq_getElem hlt
        have hr := h.rows _ _ hg
        rw [hg]
        simp only [Option.getD_some]
        exact ⟨hr.mono (by omega), fun _ _ _ => hr.mono (by omega), fun h => by cases h⟩
theorem GoodC.reset {n cl sz : Nat} {s : Cz} (h : GoodC n cl sz s) (hp : s.p + s.wd ≤ 8 * n) : GoodC n cl sz (s.reset sz) := by
  have h1 := h.sz2
  have h2 := h.sz8
  have hcl := cl_le h
  exact ⟨h.clv, h1, h2, by simp [Cz.reset]; omega, by simp [Cz.reset]; omega, hp, by simp [Cz.reset]; omega, by simp [Cz.reset], by simp [Cz.reset], by simp [Cz.reset], h.out⟩
theorem rowsC_len (cl : Nat) (rows : List (List Nat)) (last : Option (List Nat)) (row : List Nat) : (rowsC cl rows last row).length = if last.isSome = true ∧ cl + 2 + rows.length < 4096 then rows.length + 1 else rows.length := by
  unfold rowsC
  split <;> simp
theorem GoodC.step {n cl sz : Nat} {s : Cz} (h : GoodC n cl sz s) (hp : s.p + s.wd ≤ 8 * n) (c : Nat) (hlt : c < 4096) (hc : c ≠ cl) (hc1 : c ≠ cl + 1) (hb : badC cl s.rows s.last c = false) :
    GoodC n cl sz (s.step cl (rowC cl s.rows s.last c)) := by
  obtain ⟨r1, r2, r3⟩ := rowC_ok h c hc hc1 hb
  generalize rowC cl s.rows s.last c = row at *
  have hrl := rowsC_len cl s.rows s.last row
  have hw1 := h.wd1
  have hw2 := h.wd2
  have hfull := h.full
  refine ⟨h.clv, h.sz2, h.sz8, ?_, ?_, hp, ?_, ?_, ?_, ?_, ?_⟩
  · show 3 ≤ wideC cl s.wd s.rows s.last
    unfold wideC; split <;> omega
  · show wideC cl s.wd s.rows s.last ≤ 12
    unfold wideC; split <;> omega
  · show cl + 2 + (rowsC cl s.rows s.last row).length ≤ 4096
    rw [hrl]
    split <;> omega
  · intro i l hi
    have hi' : (rowsC cl s.rows s.last row)[i]? = some l := hi
    unfold rowsC at hi'
    split at hi'
    · rename_i hc2
      by_cases hlt : i < s.rows.length
      · rw [List.getElem?_append_left hlt] at hi'
        exact h.rows i l hi'
      · rw [List.getElem?_append_right (by omega)] at hi'
        obtain ⟨l0, hl0⟩ := Option.isSome_iff_exists.1 hc2.1
        have hok := h.last l0 hl0
        have hi0 : i - s.rows.length = 0 := by
          have := (List.getElem?_eq_some_iff.1 hi').1
          simp at this
          omega
        rw [hi0, hl0] at hi'
        simp at hi'
        subst hi'
        have h3 := head_lt r1
        refine ⟨by simp, ?_, ?_⟩
        · have := hok.2.1
          simp
          omega
        · intro v hv
          rcases List.mem_append.1 hv with hv | hv
          · exact hok.2.2 v hv
          · rw [List.mem_singleton.1 hv]; simpa using h3
    · exact h.rows i l hi'
  · intro l hl
    have hl' : some row = some l := hl
    injection hl' with hl'
    subst hl'
    show RowOk ((rowsC cl s.rows s.last row).length + 1) row
    rw [hrl]
    cases hlast : s.last with
    | none => exact (r3 hlast).mono (by omega)
    | some l0 =>
      simp only [Option.isSome_some, true_and]
      split
      · exact r1
      · exact (r2 l0 hlast (by omega)).mono (by omega)
  · intro hn
    cases hn
  · intro v hv
    have hv' : v ∈ s.out ++ row := hv
    rcases List.mem_append.1 hv' with hv | hv
    · exact h.out v hv
    · exact r1.2.2 v hv
theorem good0 (n sz : Nat) (h1 : 2 ≤ sz) (h2 : sz ≤ 8) : GoodC n (2 ^ sz) sz (cz0 sz) := by
  have hcl : 2 ^ sz ≤ 256 := Nat.pow_le_pow_right (n := 2) (j := 8) (by omega) h2
  exact ⟨rfl, h1, h2, by simp [cz0]; omega, by simp [cz0]; omega, by simp [cz0], by simp [cz0]; omega, by simp [cz0], by simp [cz0], by simp [cz0], by simp [cz0]⟩
end Go.Proofs.Ytkjlejkcedemlaa

namespace Go.Proofs.Ytkjlejkcedemlaa
set_option maxRecDepth 100000
set_option linter.unusedVariables false
open Go.ChangeShapes Go.WideShapes Go.ChangeAt Go.RowKit

theorem pow12 {k : Nat} (h : k ≤ 12) : 2 ^ k ≤ 4096 := Nat.pow_le_pow_right (n := 2) (by omega) h
theorem wrap_small (x : Nat) (h : x ≤ 1000000) : wrap64 ((x : Nat) : Int) = ((x : Nat) : Int) := IntWalk.wrap64_in _ (by omega)
theorem i64_small (x : Nat) (h : x ≤ 1000000) : IntKind.i64.wrap ((x : Nat) : Int) = ((x : Nat) : Int) := IntWalk.i64_in _ (by omega)
theorem wrap_pow (k : Nat) (h : k ≤ 12) : wrap64 ((2 : Int) ^ k) = ((2 ^ k : Nat) : Int) := by
  have hp := pow12 h
  rw [show (2 : Int) ^ k = ((2 ^ k : Nat) : Int) by simp]
  exact wrap_small _ (by omega)
theorem run_shl1 (p : Nat) (hp : p ≤ 12) (W : World) : (binOp .shl 3 (.int .i64 1) (.int .i64 (p : Nat))).run Try.prog W = .ok (.int .i64 ((2 ^ p : Nat) : Int)) W := by
  have := run_shl 1 p (by omega) (by omega) W
  simpa using this
set_option maxRecDepth 100000 in
set_option maxHeartbeats 400000 in
theorem clear_w (g o sz : Nat) (hs : sz ≤ 8) (w : World) (h : w.cell? ⟨g, o, none⟩ = some (.int .i64 (sz : Nat))) :
    Calls Try.prog 69 #[.pointer (some ⟨g, o, none⟩)] w fun e w' => e = .returned (.int .i64 ((2 ^ sz : Nat) : Int)) ∧ w = w' := by
  go_enter Try.func69, Try.ntmps69
  go_wp2
  go_ret
  exact ⟨ret_i (wrap_pow sz (by omega)), rfl⟩
set_option maxRecDepth 100000 in
set_option maxHeartbeats 400000 in
theorem may_w (a : Int) (w : World) :
    Calls Try.prog 61 #[.int .i64 a] w fun e w' => e = .returned (.bool (decide (2 ≤ a ∧ a ≤ 8))) ∧ w = w' := by
  go_enter Try.func61, Try.ntmps61
  by_cases h1 : 2 ≤ a
  · by_cases h2 : a ≤ 8
    · go_wp2
      go_ret
      exact ⟨ret_b (by simp [h1, h2]), rfl⟩
    · go_wp2
      go_ret
      exact ⟨ret_b (by simp [h2]), rfl⟩
  · go_wp2
    go_ret
    exact ⟨ret_b (by simp; omega), rfl⟩
theorem kw1 {w : World} {g o : Nat} {v x : Value} (h : w.cell? ⟨g, o, none⟩ = some v) : (w.setCell ⟨g, o + 1, none⟩ x).drew.cell? ⟨g, o, none⟩ = some v := by
  show (w.setCell ⟨g, o + 1, none⟩ x).cell? ⟨g, o, none⟩ = some v
  rw [World.cell?_setCell_other _ _ _ _ (fun e => by have := congrArg Addr.off e; simp at this)]
  exact h
theorem kw2 {w : World} {g o : Nat} {v x y : Value} (h : w.cell? ⟨g, o, none⟩ = some v) : ((w.setCell ⟨g, o + 1, none⟩ y).setCell ⟨g, o + 2, none⟩ x).drew.cell? ⟨g, o, none⟩ = some v := by
  show ((w.setCell ⟨g, o + 1, none⟩ y).setCell ⟨g, o + 2, none⟩ x).cell? ⟨g, o, none⟩ = some v
  rw [World.cell?_setCell_other _ _ _ _ (fun e => by have := congrArg Addr.off e; simp at this)]
  exact kw1 h
/-- Two numbers of a block are set. -/
structure SetW (g o : Nat) (x y : Int) (w w' : World) : Prop where
  chg : Chg [g] w w'
  blk : ∀ cs T, w.heap[g]? = some (.cells cs T (0, 0)) → w'.heap[g]? = some (.cells ((cs.setIfInBounds (o + 1) (.int .i64 x)).setIfInBounds (o + 2) (.int .i64 y)) T (0, 0))
theorem SetW.mk2 (g o : Nat) (x y : Int) (w : World) (n : Nat) : SetW g o x y w (((w.setCell ⟨g, o + 1, none⟩ (.int .i64 x)).setCell ⟨g, o + 2, none⟩ (.int .i64 y)).drewN n) :=
  ⟨((((Chg.refl _ w).set (.inl (by simp)) _ _).set (.inl (by simp)) _ _).drewN n), fun cs T h => heap_set (W := w.setCell ⟨g, o + 1, none⟩ (.int .i64 x)) (heap_set h)⟩
theorem SetW.to {g o : Nat} {x y x' y' : Int} {w w' : World} (hx : x = x') (hy : y = y') (h : SetW g o x y w w') : SetW g o x' y' w w' := by subst hx hy; exact h
theorem wrap_pow2 (k : Nat) (h : k ≤ 12) : IntKind.i64.wrap ((2 : Int) ^ k + 2) = ((2 ^ k + 2 : Nat) : Int) := by
  have hp := pow12 h
  rw [show (2 : Int) ^ k + 2 = ((2 ^ k + 2 : Nat) : Int) by simp]
  exact i64_small _ (by omega)
/-- Three cells in the midst of a block: size, bits, next. -/
structure W3 (g o : Nat) (sz bs nx : Nat) (w : World) : Prop where
  c0 : w.cell? ⟨g, o, none⟩ = some (.int .i64 (sz : Nat))
  c1 : w.cell? ⟨g, o + 1, none⟩ = some (.int .i64 (bs : Nat))
  c2 : w.cell? ⟨g, o + 2, none⟩ = some (.int .i64 (nx : Nat))
  fr : ∀ j, w.frozen? ⟨g, j, none⟩ = false
set_option maxRecDepth 100000 in
set_option maxHeartbeats 400000 in
theorem reset_w (g o sz bs nx : Nat) (hs : sz ≤ 8) (w : World) (h : W3 g o sz bs nx w) :
    Calls Try.prog 62 #[.pointer (some ⟨g, o, none⟩)] w fun e w' => e = .returned (.tuple #[]) ∧ SetW g o ((sz + 1 : Nat) : Int) ((2 ^ sz + 2 : Nat) : Int) w w' := by
  obtain ⟨c0, c1, c2, fr⟩ := h
  have hp := pow12 (k := sz) (by omega)
  have e1 : IntKind.i64.wrap ((sz : Int) + 1) = ((sz + 1 : Nat) : Int) := (IntWalk.i64_in _ (by omega)).trans (by omega)
  go_enter Try.func62, Try.ntmps62
  go_wp2_with fail
  go_region_held3 (fun w' => w'.cell? ⟨g, o, none⟩ = some (.int .i64 (sz : Nat))) (first | with_reducible exact c0 | with_reducible exact kw1 c0 | with_reducible exact kw2 c0 | go_keep) (first | (go_at_call 69; refine (clear_w g o sz hs _ ‹_›).mono ?_; rintro e w' ⟨rfl, rfl⟩))
  all_goals
    go_wp2
    go_end0
    exact ⟨rfl, SetW.to (by omega) (wrap_pow2 sz (by omega)) (SetW.mk2 g o _ _ w 1)⟩
/-- What a number more makes of a width. -/
def growB (bs nx : Nat) : Nat := if nx < 4096 ∧ nx + 1 = 2 ^ bs ∧ bs < 12 then bs + 1 else bs
def growN (nx : Nat) : Nat := if nx < 4096 then nx + 1 else nx
theorem set_same {cs : Array Value} {i : Nat} {x : Value} (h : cs[i]? = some x) : cs.setIfInBounds i x = cs := by
  obtain ⟨hl, he⟩ := Array.getElem?_eq_some_iff.1 h
  apply Array.ext_getElem?
  intro j
  rw [Array.getElem?_setIfInBounds]
  split
  · subst_vars
    simp [hl]
  · rfl
theorem cell_arr {w : World} {g j : Nat} {cs : Array Value} {T : TypeId} {x : Value} (h : w.heap[g]? = some (.cells cs T (0, 0))) (hc : w.cell? ⟨g, j, none⟩ = some x) : cs[j]? = some x := by
  unfold World.cell? at hc
  simp [h] at hc
  exact hc
theorem SetW.mk0 (g o bs nx : Nat) (w : World) (c1 : w.cell? ⟨g, o + 1, none⟩ = some (.int .i64 (bs : Nat))) (c2 : w.cell? ⟨g, o + 2, none⟩ = some (.int .i64 (nx : Nat))) : SetW g o ((bs : Nat) : Int) ((nx : Nat) : Int) w w :=
  ⟨Chg.refl _ w, fun cs T h => by rw [set_same (cell_arr h c1), set_same (cell_arr h c2)]; exact h⟩
theorem SetW.mkx (g o bs nx : Nat) (w : World) (n : Nat) (c1 : w.cell? ⟨g, o + 1, none⟩ = some (.int .i64 (bs : Nat))) :
    SetW g o ((bs + 1 : Nat) : Int) ((nx + 1 : Nat) : Int) w (((w.drewN n).setCell ⟨g, o + 2, none⟩ (.int .i64 ((nx : Int) + 1))).setCell ⟨g, o + 1, none⟩ (.int .i64 ((bs : Int) + 1))) :=
  ⟨((((Chg.refl _ w).drewN n).set (.inl (by simp)) _ _).set (.inl (by simp)) _ _), fun cs T h => by
    rw [show ((nx + 1 : Nat) : Int) = (nx : Int) + 1 by omega, show ((bs + 1 : Nat) : Int) = (bs : Int) + 1 by omega]
    have := heap_set (i := o + 1) (x := .int .i64 ((bs : Int) + 1)) (heap_set (W := w.drewN n) (i := o + 2) (x := .int .i64 ((nx : Int) + 1)) h)
    rw [this, Array.setIfInBounds_comm _ _ (by omega)]⟩
theorem SetW.mk1 (g o : Nat) (y x0 : Int) (w : World) (n : Nat) (c1 : w.cell? ⟨g, o + 1, none⟩ = some (.int .i64 x0)) : SetW g o x0 y w ((w.setCell ⟨g, o + 2, none⟩ (.int .i64 y)).drewN n) :=
  ⟨(((Chg.refl _ w).set (.inl (by simp)) _ _).drewN n), fun cs T h => by rw [set_same (cell_arr h c1)]; exact heap_set h⟩
set_option maxRecDepth 100000 in
set_option maxHeartbeats 400000 in
theorem grow_w (g o sz bs nx : Nat) (hb : bs ≤ 12) (hn : nx ≤ 4096) (w : World) (h : W3 g o sz bs nx w) :
    Calls Try.prog 78 #[.pointer (some ⟨g, o, none⟩)] w fun e w' => e = .returned (.bool (decide (nx < 4096))) ∧ SetW g o ((growB bs nx : Nat) : Int) ((growN nx : Nat) : Int) w w' := by
  obtain ⟨c0, c1, c2, fr⟩ := h
  have hp := pow12 hb
  by_cases hlt : nx < 4096
  · have hd : decide (nx < 4096) = true := by simp; omega
    rw [hd]
    have gn : growN nx = nx + 1 := by unfold growN; rw [if_pos hlt]
    by_cases he : nx + 1 = 2 ^ bs
    · have e2 : (((nx : Int) + 1) == wrap64 ((2 : Int) ^ bs)) = true := by rw [wrap_pow bs hb, beq_iff_eq]; omega
      by_cases h12 : bs < 12
      · have gb : growB bs nx = bs + 1 := by unfold growB; rw [if_pos ⟨hlt, he, h12⟩]
        have e3 : decide ((bs : Int) < 12) = true := by simp; omega
        have GB := Lib.hid gb
        have GN := Lib.hid gn
        clear gb gn he hd
        go_enter Try.func78, Try.ntmps78
        go_wp2_with fail
        go_quiet (fail)
        go_wp2
        go_ret
        rw [GB.out, GN.out]
        exact ⟨rfl, SetW.mkx g o bs nx w nq c1⟩
      · have gb : growB bs nx = bs := by unfold growB; rw [if_neg (by omega)]
        have e3 : decide ((bs : Int) < 12) = false := by simp; omega
        have GB := Lib.hid gb
        have GN := Lib.hid gn
        clear gb gn he hd
        go_enter Try.func78, Try.ntmps78
        go_wp2_with fail
        go_quiet (fail)
        go_wp2
        go_ret
        rw [GB.out, GN.out]
        exact ⟨rfl, SetW.mk1 g o _ _ w nq c1⟩
    · have e2 : (((nx : Int) + 1) == wrap64 ((2 : Int) ^ bs)) = false := by rw [wrap_pow bs hb, beq_eq_false_iff_ne]; omega
      have gb : growB bs nx = bs := by unfold growB; rw [if_neg (by omega)]
      have GB := Lib.hid gb
      have GN := Lib.hid gn
      clear gb gn he hd
      go_enter Try.func78, Try.ntmps78
      go_wp2_with fail
      go_quiet (fail)
      go_wp2
      go_ret
      rw [GB.out, GN.out]
      exact ⟨rfl, SetW.mk1 g o _ _ w nq c1⟩
  · have hd : decide (nx < 4096) = false := by simp; omega
    rw [hd]
    have gn : growN nx = nx := by unfold growN; rw [if_neg hlt]
    have gb : growB bs nx = bs := by unfold growB; rw [if_neg (by omega)]
    have GB := Lib.hid gb
    have GN := Lib.hid gn
    clear gb gn hd
    go_enter Try.func78, Try.ntmps78
    go_wp2
    go_ret
    rw [GB.out, GN.out]
    exact ⟨rfl, SetW.mk0 g o bs nx w c1 c2⟩
end Go.Proofs.Ytkjlejkcedemlaa
