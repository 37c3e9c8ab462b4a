/- Worlds that turn in few blocks; rows of bytes; a reader of bits lies in memory. -/
import Derived.Test.YtioghgnngdcicaaRows
import Derived.Test.YtioghgnngdcicaaGuard
import Derived.WalkKit
import Derived.ProofKit
import Derived.OpenShut
import Derived.WalkLawsBesides
import Derived.WalkSpells
import Derived.Outline
import Derived.Lib.Hide
import Derived.Deep.QuietTactic
import Derived.BigQuiet
namespace Go.Proofs.Ytioghgnngdcicaa
set_option linter.unusedVariables false
open Go.ChangeShapes Go.WideShapes Go.ChangeAt Go.RowKit

/-- What lay in w lies in w', but for the blocks S. -/
structure Chg (S : List Nat) (w w' : World) : Prop where
  os : w'.os = w.os
  tape : w'.tape = w.tape
  output : w'.output = w.output
  size : w.heap.size ≤ w'.heap.size
  block : ∀ k, k < w.heap.size → k ∉ S → w'.heap[k]? = w.heap[k]?
section
variable {S : List Nat} {w w' w'' : World}
theorem Chg.refl (S : List Nat) (w : World) : Chg S w w := ⟨rfl, rfl, rfl, Nat.le_refl _, fun _ _ _ => rfl⟩
theorem Chg.trans (h : Chg S w w') (k : Chg S w' w'') : Chg S w w'' :=
  ⟨k.os.trans h.os, k.tape.trans h.tape, k.output.trans h.output, Nat.le_trans h.size k.size, fun i hi hs => (k.block i (Nat.lt_of_lt_of_le hi h.size) hs).trans (h.block i hi hs)⟩
theorem Chg.mono {T : List Nat} (h : Chg S w w') (hs : ∀ k ∈ S, k ∈ T) : Chg T w w' := ⟨h.os, h.tape, h.output, h.size, fun i hi hn => h.block i hi (fun hm => hn (hs i hm))⟩
theorem Chg.of_below (h : Below w.heap.size w w') : Chg S w w' := ⟨h.os, h.tape, h.output, h.size, fun i hi _ => h.block i hi⟩
theorem Chg.below {B : Nat} (h : Chg S w w') (hB : B ≤ w.heap.size) (hs : ∀ k ∈ S, B ≤ k) : Below B w w' :=
  ⟨h.os, h.tape, h.output, h.size, fun i hi => h.block i (by omega) (fun hm => by have := hs i hm; omega)⟩
theorem Chg.drew (h : Chg S w w') : Chg S w w'.drew := ⟨h.os, h.tape, h.output, h.size, h.block⟩
theorem Chg.drewN (h : Chg S w w') (n : Nat) : Chg S w (w'.drewN n) := ⟨h.os, h.tape, h.output, h.size, h.block⟩
theorem Chg.alloc (h : Chg S w w') (o : Obj) : Chg S w (w'.alloc o) :=
  h.trans (Chg.of_below ((Below.refl _ w').alloc (Nat.le_refl _) o))
theorem Chg.set (h : Chg S w w') {g : Nat} (hg : g ∈ S ∨ w.heap.size ≤ g) (i : Nat) (v : Value) : Chg S w (w'.setCell ⟨g, i, none⟩ v) := by
  refine ⟨h.os, h.tape, h.output, by simpa [World.setCell] using h.size, fun k hk hn => ?_⟩
  have hne : k ≠ g := by
    rintro rfl
    rcases hg with hg | hg
    · exact hn hg
    · omega
  exact (Below.heap_setCell w' _ v k hne).trans (h.block k hk hn)
theorem Chg.grown {row : Option Nat} (h : w.grownBy w' row) (hr : ∀ r, row = some r → r ∈ S) : Chg S w w' :=
  ⟨h.os, h.tape, h.output, h.size, fun k hk hn => h.block k hk (fun e => hn (hr k e.symm))⟩
end
theorem lt_heap {W : World} {k : Nat} {o : Obj} (h : W.heap[k]? = some o) : k < W.heap.size := (Array.getElem?_eq_some_iff.1 h).1
theorem hp_new0 (w : World) (o : Obj) : (w.alloc o).heap[w.heap.size]? = some o := (MapKept.heap_alloc w o).1
theorem hp_alloc {W : World} {B : Nat} {o : Obj} (o' : Obj) (h : W.heap[B]? = some o) : (W.alloc o').heap[B]? = some o := (Below.heap_alloc W o' B (lt_heap h)).trans h
theorem hp_below {n B : Nat} {W W' : World} {o : Obj} (h : W.heap[B]? = some o) (hb : Below n W W') (hlt : B < n) : W'.heap[B]? = some o := (hb.block B hlt).trans h
theorem hp_chg {S : List Nat} {B : Nat} {W W' : World} {o : Obj} (h : W.heap[B]? = some o) (hb : Chg S W W') (hn : B ∉ S) : W'.heap[B]? = some o := (hb.block B (lt_heap h) hn).trans h
theorem hp_cell {W : World} {B j : Nat} {cs : Array Value} {t : TypeId} {v : Value} (h : W.heap[B]? = some (.cells cs t (0, 0))) (hv : cs[j]? = some v) : W.cell? ⟨B, j, none⟩ = some v := by
  simp [World.cell?, h, hv]
theorem hp_froz {W : World} {B : Nat} {cs : Array Value} {t : TypeId} (h : W.heap[B]? = some (.cells cs t (0, 0))) (j : Nat) : W.frozen? ⟨B, j, none⟩ = false := by simp [World.frozen?, h]
theorem heap_set {W : World} {b i : Nat} {x : Value} {cs : Array Value} {t : TypeId} (h : W.heap[b]? = some (.cells cs t (0, 0))) : (W.setCell ⟨b, i, none⟩ x).heap[b]? = some (.cells (cs.setIfInBounds i x) t (0, 0)) := by
  have hl := (Array.getElem?_eq_some_iff.1 h).1
  have he := (Array.getElem?_eq_some_iff.1 h).2
  unfold World.setCell
  simp [hl, he, Array.getElem_modify]
def In64 (a : Int) : Prop := -9223372036854775808 ≤ a ∧ a ≤ 9223372036854775807
theorem quiet_left {P : Program} {f : FuncId} {args : Array Value} {w : World} {n : Nat} {v : Value}
    (h : Calls P f args (w.drewN n) fun e w' => e = .returned v ∧ w.drewN n = w') : Calls P f args (w.drewN n) fun e w'' => e = .returned v ∧ ∃ m, w'' = w.drewN m :=
  h.mono fun _ _ ⟨he, hm⟩ => ⟨he, n, hm.symm⟩
theorem ret_i {k : IntKind} {a b : Int} (h : a = b) : Ending.returned (.int k a) = .returned (.int k b) := by rw [h]
theorem ret_b {b b' : Bool} (h' : b = b') : Ending.returned (.bool b) = .returned (.bool b') := by rw [h']
theorem ret2_ib {k : IntKind} {a a' : Int} {b b' : Bool} (h : a = a') (h' : b = b') : Ending.returned (.tuple #[.int k a, .bool b]) = .returned (.tuple #[.int k a', .bool b']) := by rw [h, h']

/-- Bytes lie in w: m of them, d j the j-th. -/
def Byt (w : World) (A : Option Addr) (m : Nat) (d : Nat → Nat) : Prop :=
  0 < m → ∃ bk off, A = some ⟨bk, off, none⟩ ∧ bk < w.heap.size ∧ ∀ j, j < m → w.cell? ⟨bk, off + j, none⟩ = some (.int .u8 (d j : Nat))
theorem Byt.below {w w' : World} {A : Option Addr} {n : Nat} {c : Nat → Nat} (h : Byt w A n c) (hb : Below w.heap.size w w') : Byt w' A n c := fun hn => by
  obtain ⟨bk, off, rfl, hlt, hc⟩ := h hn
  exact ⟨bk, off, rfl, Nat.lt_of_lt_of_le hlt hb.size, fun j hj => (hb.cell (p := ⟨bk, off + j, none⟩) hlt).trans (hc j hj)⟩
def Off (A : Option Addr) (S : List Nat) : Prop := ∀ a, A = some a → a.block ∉ S
theorem Byt.chg {S : List Nat} {w w' : World} {A : Option Addr} {n : Nat} {c : Nat → Nat} (h : Byt w A n c) (hb : Chg S w w') (ho : 0 < n → Off A S) : Byt w' A n c := fun hn => by
  obtain ⟨bk, off, rfl, hlt, hc⟩ := h hn
  refine ⟨bk, off, rfl, Nat.lt_of_lt_of_le hlt hb.size, fun j hj => ?_⟩
  have h1 := hc j hj
  have h2 := hb.block bk hlt (ho hn _ rfl)
  simp only [World.cell?] at h1 ⊢
  rw [h2]
  exact h1
/-- A reader's row: n bytes b, at bits of them read. -/
structure Rd (T : TypeId) (g : Nat) (A : Option Addr) (n cap : Nat) (b : Nat → Nat) (p : Nat) (vo : Value) (fr : Int) (w : World) : Prop where
  box : w.heap[g]? = some (.cells #[.slice A n cap, vo, .int .i64 (p : Nat), .int .i64 fr] T (0, 0))
  byt : Byt w A n b
  off : 0 < n → Off A [g]
section
variable {T : TypeId} {g : Nat} {A : Option Addr} {n cap : Nat} {b : Nat → Nat} {p : Nat} {vo : Value} {fr : Int} {w w' : World}
theorem Rd.chg {S : List Nat} (h : Rd T g A n cap b p vo fr w) (hc : Chg S w w') (hg : g ∉ S) (hA : 0 < n → Off A S) : Rd T g A n cap b p vo fr w' :=
  ⟨hp_chg h.box hc hg, h.byt.chg hc hA, h.off⟩
theorem Rd.alloc (h : Rd T g A n cap b p vo fr w) (o : Obj) : Rd T g A n cap b p vo fr (w.alloc o) :=
  h.chg ((Chg.refl [] w).alloc o) (by simp) (fun _ _ _ => by simp)
theorem Rd.move (h : Rd T g A n cap b p vo fr w) {q : Nat} (hc : Chg [g] w w') (hb : w'.heap[g]? = some (.cells #[.slice A n cap, vo, .int .i64 (q : Nat), .int .i64 fr] T (0, 0))) : Rd T g A n cap b q vo fr w' :=
  ⟨hb, h.byt.chg hc h.off, h.off⟩
end
def bitL (b : Nat → Nat) (k : Nat) : Nat := b (k / 8) / 2 ^ (k % 8) % 2
def bitH (b : Nat → Nat) (k : Nat) : Nat := b (k / 8) / 2 ^ (7 - k % 8) % 2

set_option maxRecDepth 100000 in
set_option maxHeartbeats 1000000 in
theorem left_row (T : TypeId) (g : Nat) (A : Option Addr) (n cap : Nat) (b : Nat → Nat) (p : Nat) (vo : Value) (fr : Int) (hn : n ≤ 1000000) (hp : p ≤ 8 * n) (w : World) (h : Rd T g A n cap b p vo fr w) :
    Calls Try.prog 53 #[.pointer (some ⟨g, 0, none⟩)] w fun e w' => e = .returned (.int .i64 ((8 * n - p : Nat) : Int)) ∧ ∃ m, w' = w.drewN m := by
  have c0 := hp_cell (j := 0) h.box rfl
  have c2 := hp_cell (j := 2) h.box rfl
  have e1 : (8 : Int) * n - p = ((8 * n - p : Nat) : Int) := by omega
  go_enter Try.func53, Try.ntmps53
  go_wp2_with fail
  go_quiet (fail)
  go_wp2
  go_ret
  exact ⟨rfl, _, rfl⟩
end Go.Proofs.Ytioghgnngdcicaa
