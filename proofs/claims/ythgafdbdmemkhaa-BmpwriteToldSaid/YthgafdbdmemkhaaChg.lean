/- Worlds that turn in few blocks; rows of bytes; a file that is written (beside pictures). -/
import Derived.Test.YthgafdbdmemkhaaSetR
import Derived.Test.YthgafdbdmemkhaaSame
import Derived.Test.YthgafdbdmemkhaaFitR
import Derived.Test.YthgafdbdmemkhaaCopy
import Derived.WalkSpells
import Derived.Outline
import Derived.Lib.AppendZerosOnto
namespace Go.Proofs.Ythgafdbdmemkhaa
set_option linter.unusedVariables false
open Go.ChangeShapes Go.WideShapes Go.ChangeAt Go.RowKit

/-- What lay in w lies in w', but for the blocks S. -/
structure Chg (S : List Nat) (w w' : World) : Prop where
  os : w'.os = w.os
  tape : w'.tape = w.tape
  output : w'.output = w.output
  size : w.heap.size ≤ w'.heap.size
  block : ∀ k, k < w.heap.size → k ∉ S → w'.heap[k]? = w.heap[k]?
section
variable {S : List Nat} {w w' w'' : World}
theorem Chg.refl (S : List Nat) (w : World) : Chg S w w := ⟨rfl, rfl, rfl, Nat.le_refl _, fun _ _ _ => rfl⟩
theorem Chg.trans (h : Chg S w w') (k : Chg S w' w'') : Chg S w w'' :=
  ⟨k.os.trans h.os, k.tape.trans h.tape, k.output.trans h.output, Nat.le_trans h.size k.size, fun i hi hs => (k.block i (Nat.lt_of_lt_of_le hi h.size) hs).trans (h.block i hi hs)⟩
theorem Chg.mono {T : List Nat} (h : Chg S w w') (hs : ∀ k ∈ S, k ∈ T) : Chg T w w' := ⟨h.os, h.tape, h.output, h.size, fun i hi hn => h.block i hi (fun hm => hn (hs i hm))⟩
theorem Chg.of_below (h : Below w.heap.size w w') : Chg S w w' := ⟨h.os, h.tape, h.output, h.size, fun i hi _ => h.block i hi⟩
theorem Chg.below {B : Nat} (h : Chg S w w') (hB : B ≤ w.heap.size) (hs : ∀ k ∈ S, B ≤ k) : Below B w w' :=
  ⟨h.os, h.tape, h.output, h.size, fun i hi => h.block i (by omega) (fun hm => by have := hs i hm; omega)⟩
theorem Chg.drew (h : Chg S w w') : Chg S w w'.drew := ⟨h.os, h.tape, h.output, h.size, h.block⟩
theorem Chg.drewN (h : Chg S w w') (n : Nat) : Chg S w (w'.drewN n) := ⟨h.os, h.tape, h.output, h.size, h.block⟩
theorem Chg.alloc (h : Chg S w w') (o : Obj) : Chg S w (w'.alloc o) :=
  h.trans (Chg.of_below ((Below.refl _ w').alloc (Nat.le_refl _) o))
theorem Chg.set (h : Chg S w w') {g : Nat} (hg : g ∈ S ∨ w.heap.size ≤ g) (i : Nat) (v : Value) : Chg S w (w'.setCell ⟨g, i, none⟩ v) := by
  refine ⟨h.os, h.tape, h.output, by simpa [World.setCell] using h.size, fun k hk hn => ?_⟩
  have hne : k ≠ g := by
    rintro rfl
    rcases hg with hg | hg
    · exact hn hg
    · omega
  exact (Below.heap_setCell w' _ v k hne).trans (h.block k hk hn)
theorem Chg.grown {row : Option Nat} (h : w.grownBy w' row) (hr : ∀ r, row = some r → r ∈ S) : Chg S w w' :=
  ⟨h.os, h.tape, h.output, h.size, fun k hk hn => h.block k hk (fun e => hn (hr k e.symm))⟩
end
theorem lt_heap {W : World} {k : Nat} {o : Obj} (h : W.heap[k]? = some o) : k < W.heap.size := (Array.getElem?_eq_some_iff.1 h).1
theorem hp_chg {S : List Nat} {B : Nat} {W W' : World} {o : Obj} (h : W.heap[B]? = some o) (hb : Chg S W W') (hn : B ∉ S) : W'.heap[B]? = some o := (hb.block B (lt_heap h) hn).trans h
theorem hp_froz {W : World} {B : Nat} {cs : Array Value} {t : TypeId} (h : W.heap[B]? = some (.cells cs t (0, 0))) (j : Nat) : W.frozen? ⟨B, j, none⟩ = false := by simp [World.frozen?, h]
theorem heap_set {W : World} {b i : Nat} {x : Value} {cs : Array Value} {t : TypeId} (h : W.heap[b]? = some (.cells cs t (0, 0))) : (W.setCell ⟨b, i, none⟩ x).heap[b]? = some (.cells (cs.setIfInBounds i x) t (0, 0)) := by
  have hl := (Array.getElem?_eq_some_iff.1 h).1
  have he := (Array.getElem?_eq_some_iff.1 h).2
  unfold World.setCell
  simp [hl, he, Array.getElem_modify]
theorem hp_oth {W : World} {B g i : Nat} {v : Value} {o : Obj} (h : W.heap[B]? = some o) (hne : ¬B = g) : (W.setCell ⟨g, i, none⟩ v).heap[B]? = some o := (Below.heap_setCell W _ v B hne).trans h
theorem hp_newk {w : World} {o : Obj} {k : Nat} (hk : w.heap.size = k) : (w.alloc o).heap[k]? = some o := hk ▸ hp_new0 w o
theorem hp_drew {W : World} {b : Nat} {o : Option Obj} (h : W.heap[b]? = o) : W.drew.heap[b]? = o := h
def Byt (w : World) (A : Option Addr) (m : Nat) (d : Nat → Nat) : Prop :=
  0 < m → ∃ bk off, A = some ⟨bk, off, none⟩ ∧ bk < w.heap.size ∧ ∀ j, j < m → w.cell? ⟨bk, off + j, none⟩ = some (.int .u8 (d j : Nat))
theorem Byt.below {w w' : World} {A : Option Addr} {n : Nat} {c : Nat → Nat} (h : Byt w A n c) (hb : Below w.heap.size w w') : Byt w' A n c := fun hn => by
  obtain ⟨bk, off, rfl, hlt, hc⟩ := h hn
  exact ⟨bk, off, rfl, Nat.lt_of_lt_of_le hlt hb.size, fun j hj => (hb.cell (p := ⟨bk, off + j, none⟩) hlt).trans (hc j hj)⟩
def Off (A : Option Addr) (S : List Nat) : Prop := ∀ a, A = some a → a.block ∉ S
theorem Byt.chg {S : List Nat} {w w' : World} {A : Option Addr} {n : Nat} {c : Nat → Nat} (h : Byt w A n c) (hb : Chg S w w') (ho : 0 < n → Off A S) : Byt w' A n c := fun hn => by
  obtain ⟨bk, off, rfl, hlt, hc⟩ := h hn
  refine ⟨bk, off, rfl, Nat.lt_of_lt_of_le hlt hb.size, fun j hj => ?_⟩
  have h1 := hc j hj
  have h2 := hb.block bk hlt (ho hn _ rfl)
  simp only [World.cell?] at h1 ⊢
  rw [h2]
  exact h1
def cellsB (o : List Nat) : List Value := o.map fun k => .int .u8 ((k : Nat) : Int)
theorem cellsB_len (o : List Nat) : (cellsB o).length = o.length := by simp [cellsB]
def Near (g : Nat) (ob : Option Nat) : List Nat := g :: ob.toList
def Next (ob ob' : Option Nat) (w : World) : Prop := ob' = ob ∨ ∃ k, ob' = some k ∧ w.heap.size ≤ k
theorem near_grown {g : Nat} {ob : Option Nat} {w w' : World} (h : w.grownBy w' ob) : Chg (Near g ob) w w' := Chg.grown h (fun r e => by subst e; simp [Near])
theorem near_set {g : Nat} {ob : Option Nat} (w : World) (i : Nat) (v : Value) : Chg (Near g ob) w (w.setCell ⟨g, i, none⟩ v) := (Chg.refl _ w).set (.inl (by simp [Near])) i v
theorem cellsB_snoc (o : List Nat) (x : Nat) : cellsB (o ++ [x]) = cellsB o ++ [.int .u8 ((x : Nat) : Int)] := by simp [cellsB]
theorem own_apart' {w : World} {base : Nat} {e : TypeId} {size k : Nat} {x : Value} {xs : List Value} (h : w.ownsRow base e size x k xs) {r : Nat} (hr : r < base) : x.ownBlock = none ∨ x.ownBlock ≠ some r := by
  cases hx : x.ownBlock with
  | none => exact .inl rfl
  | some g =>
    refine .inr fun e => ?_
    injection e with e
    have := (h.lt g hx).1
    omega
theorem Chg.trans2 {S T : List Nat} {w w' w'' : World} (h : Chg S w w') (k : Chg T w' w'') (hT : ∀ x ∈ T, x ∈ S ∨ w.heap.size ≤ x) : Chg S w w'' :=
  ⟨k.os.trans h.os, k.tape.trans h.tape, k.output.trans h.output, Nat.le_trans h.size k.size, fun i hi hs => (k.block i (Nat.lt_of_lt_of_le hi h.size) (fun hm => by rcases hT i hm with h1 | h1; exact hs h1; omega)).trans (h.block i hi hs)⟩
theorem Next.near {g : Nat} {ob ob' : Option Nat} {w : World} (h : Next ob ob' w) : ∀ x ∈ Near g ob', x ∈ Near g ob ∨ w.heap.size ≤ x := fun x hx => by
  rcases h with rfl | ⟨k, rfl, hk⟩
  · exact .inl hx
  · simp [Near] at hx ⊢
    rcases hx with rfl | rfl
    · exact .inl (.inl rfl)
    · exact .inr hk
theorem Next.trans {ob ob' ob'' : Option Nat} {w w' : World} (h : Next ob ob' w) (k : Next ob' ob'' w') (hs : w.heap.size ≤ w'.heap.size) : Next ob ob'' w := by
  rcases k with rfl | ⟨q, rfl, hq⟩
  · exact h
  · exact .inr ⟨q, rfl, by omega⟩
theorem own_chg {w w' : World} {S : List Nat} {base size n : Nat} {e : TypeId} {v : Value} {xs : List Value} (h : w.ownsRow base e size v n xs) (hc : Chg S w w') (hS : ∀ k, v.ownBlock = some k → k ∉ S) : w'.ownsRow base e size v n xs := by
  obtain ⟨hl, hf⟩ := h
  refine ⟨hl, ?_⟩
  rcases hf with h0 | ⟨g, cap, cur, rfl, hB, hg, hnc, hcm, hcs, ht⟩
  · exact .inl h0
  · exact .inr ⟨g, cap, cur, rfl, hB, hp_chg hg hc (hS g rfl), hnc, hcm, hcs, ht⟩
theorem info_parts {P : Program} {t : TypeId} {z : Option Value} {s b : Nat} (h : (P.info? t).map (fun i => (i.zero, i.size, i.bytes)) = some (z, s, b)) : ∃ i, P.info? t = some i ∧ i.zero = z ∧ i.size = s ∧ i.bytes = b := by
  obtain ⟨i, hi, he⟩ := Option.map_eq_some_iff.1 h
  cases he
  exact ⟨i, hi, rfl, rfl, rfl⟩
theorem info8 : (Try.prog.info? 5).map (fun i => (i.zero, i.size, i.bytes)) = some (some (.int .u8 0), 1, 1) := by kernel_rfl
theorem near_mem {g k : Nat} {ob : Option Nat} : k ∈ Near g ob ↔ k = g ∨ ob = some k := by
  cases ob <;> simp [Near, eq_comm]
end Go.Proofs.Ythgafdbdmemkhaa
