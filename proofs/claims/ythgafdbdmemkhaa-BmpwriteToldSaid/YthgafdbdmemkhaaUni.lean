/- Unlike pixels as a list without repeats, and how many there are. -/
import Derived.Test.YthgafdbdmemkhaaCol
namespace Go.Proofs.Ythgafdbdmemkhaa
set_option linter.unusedVariables false
open Go.ChangeShapes Go.WideShapes Go.ChangeAt Go.RowKit Go.Shelf
open Go.Maps (addKey)

abbrev P4 := Nat × Nat × Nat × Nat
def p4 (c : Nat → Nat) (i : Nat) : P4 := (c (4 * i), c (4 * i + 1), c (4 * i + 2), c (4 * i + 3))
def ll (c : Nat → Nat) (N : Nat) : List P4 := (List.range N).map (p4 c)
def addP (acc : List P4) (x : P4) : List P4 := if x ∈ acc then acc else acc ++ [x]
/-- The unlike ones, in the order in which they first come. -/
def uni (l : List P4) : List P4 := l.foldl addP []
def w4 (p : P4) : Prop := p.1 < 65536 ∧ p.2.1 < 65536 ∧ p.2.2.1 < 65536 ∧ p.2.2.2 < 65536
def lits4 (p : P4) : List Lit := [.int .u16 (p.1 : Nat), .int .u16 (p.2.1 : Nat), .int .u16 (p.2.2.1 : Nat), .int .u16 (p.2.2.2 : Nat)]
def klP (p : P4) : Lit := .string (keyBytes (lits4 p))
theorem kl_p4 (c : Nat → Nat) (i : Nat) : kl c i = klP (p4 c i) := rfl
theorem w4_p4 {c : Nat → Nat} (hc : ∀ i, c i < 65536) (i : Nat) : w4 (p4 c i) := ⟨hc _, hc _, hc _, hc _⟩
theorem klP_inj {p q : P4} (hp : w4 p) (hq : w4 q) (h : klP p = klP q) : p = q := by
  obtain ⟨a, b, c, d⟩ := p
  obtain ⟨a', b', c', d'⟩ := q
  obtain ⟨h1, h2, h3, h4⟩ := hp
  obtain ⟨k1, k2, k3, k4⟩ := hq
  unfold klP at h
  injection h with h
  have e := keyBytes_inj (l := lits4 (a, b, c, d)) (l' := lits4 (a', b', c', d')) (by simp [Alike, lits4, Lit.sameKind])
    (by intro x hx; simp [lits4] at hx; rcases hx with rfl | rfl | rfl | rfl <;> exact wf16 ‹_›)
    (by intro x hx; simp [lits4] at hx; rcases hx with rfl | rfl | rfl | rfl <;> exact wf16 ‹_›) h
  simp [lits4] at e
  obtain ⟨e1, e2, e3, e4⟩ := e
  simp; omega
theorem any_same {acc : List P4} {x : P4} (ha : ∀ y ∈ acc, w4 y) (hx : w4 x) : (acc.map klP).any (fun y => y.sameKey (klP x)) = decide (x ∈ acc) := by
  rw [Bool.eq_iff_iff]
  simp only [List.any_map, List.any_eq_true, decide_eq_true_eq, Function.comp]
  constructor
  · rintro ⟨y, hy, h⟩
    have : klP y = klP x := by simpa [klP, Lit.sameKey] using h
    rwa [← klP_inj (ha y hy) hx this]
  · intro h
    exact ⟨x, h, by simp [klP, Lit.sameKey]⟩
theorem fold_klP (l : List P4) : ∀ acc : List P4, (∀ y ∈ l, w4 y) → (∀ y ∈ acc, w4 y) → (l.map klP).foldl addKey (acc.map klP) = (l.foldl addP acc).map klP := by
  induction l with
  | nil => intro acc _ _; rfl
  | cons x l ih =>
    intro acc hl ha
    have e : addKey (acc.map klP) (klP x) = (addP acc x).map klP := by
      unfold addKey addP
      rw [any_same ha (hl x (by simp))]
      by_cases h : x ∈ acc <;> simp [h]
    simp only [List.map_cons, List.foldl_cons]
    rw [e]
    refine ih _ (fun y hy => hl y (by simp [hy])) ?_
    intro y hy
    unfold addP at hy
    split at hy
    · exact ha y hy
    · simp at hy
      rcases hy with hy | rfl
      · exact ha y hy
      · exact hl _ (by simp)
theorem cnt_uni {c : Nat → Nat} (hc : ∀ i, c i < 65536) (N : Nat) : cnt (kls c N) = (uni (ll c N)).length := by
  have e : kls c N = (ll c N).map klP := by unfold kls ll; rw [List.map_map]; rfl
  unfold cnt uni
  rw [e]
  have := fold_klP (ll c N) [] (by
    intro y hy
    obtain ⟨i, _, rfl⟩ := List.mem_map.1 hy
    exact w4_p4 hc i) (by simp)
  rw [List.map_nil] at this
  rw [this, List.length_map]
theorem uni_nodup_aux (l : List P4) : ∀ acc : List P4, (acc ++ l).Nodup → l.foldl addP acc = acc ++ l := by
  induction l with
  | nil => intro acc _; simp
  | cons x l ih =>
    intro acc h
    have hx : x ∉ acc := by
      intro hx
      rw [List.nodup_append] at h
      exact h.2.2 x hx x (by simp) rfl
    have e : addP acc x = acc ++ [x] := by unfold addP; rw [if_neg hx]
    rw [List.foldl_cons, e, ih _ (by rw [List.append_assoc]; exact h), List.append_assoc]
    rfl
theorem uni_nodup {l : List P4} (h : l.Nodup) : uni l = l := by
  unfold uni
  rw [uni_nodup_aux l [] (by simpa using h)]
  rfl
end Go.Proofs.Ythgafdbdmemkhaa
