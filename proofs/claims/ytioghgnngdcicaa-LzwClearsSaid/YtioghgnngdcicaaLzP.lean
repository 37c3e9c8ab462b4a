/- Plain laws of GIF's code: what codes come to. -/
import Derived.Test.YtioghgnngdcicaaTake
namespace Go.Proofs.Ytioghgnngdcicaa
set_option linter.unusedVariables false

/-- Where a reader of codes stands: bits read, a code's bits, the rows made, the row ahead, what is out. -/
structure Cz where
  p : Nat
  wd : Nat
  rows : List (List Nat)
  last : Option (List Nat)
  out : List Nat
/-- May this code not be? -/
def badC (cl : Nat) (rows : List (List Nat)) (last : Option (List Nat)) (c : Nat) : Bool := !decide (c < cl) && (last.isNone || decide (cl + 2 + rows.length < c))
/-- A code's row. -/
def rowC (cl : Nat) (rows : List (List Nat)) (last : Option (List Nat)) (c : Nat) : List Nat :=
  if c < cl then [c] else if c = cl + 2 + rows.length then last.getD [] ++ [(last.getD []).headD 0] else (rows[c - cl - 2]?).getD []
/-- The rows behind it. -/
def rowsC (cl : Nat) (rows : List (List Nat)) (last : Option (List Nat)) (row : List Nat) : List (List Nat) :=
  if last.isSome = true ∧ cl + 2 + rows.length < 4096 then rows ++ [last.getD [] ++ [row.headD 0]] else rows
/-- A code's bits behind it. -/
def wideC (cl wd : Nat) (rows : List (List Nat)) (last : Option (List Nat)) : Nat :=
  if (last.isSome = true ∧ cl + 2 + rows.length < 4096) ∧ cl + 2 + rows.length + 1 = 2 ^ wd ∧ wd < 12 then wd + 1 else wd
def Cz.reset (s : Cz) (sz : Nat) : Cz := ⟨s.p + s.wd, sz + 1, [], none, s.out⟩
def Cz.step (s : Cz) (cl : Nat) (row : List Nat) : Cz := ⟨s.p + s.wd, wideC cl s.wd s.rows s.last, rowsC cl s.rows s.last row, some row, s.out ++ row⟩
/-- What the codes come to: the values, or the first error. -/
def finC (b : Nat → Nat) (n cl sz most : Nat) : Nat → Cz → List Nat × Nat
  | 0, _ => ([], 2)
  | k + 1, s =>
    if 8 * n < s.p + s.wd then ([], 2)
    else if takeL b s.p s.wd = cl then finC b n cl sz most k (s.reset sz)
    else if takeL b s.p s.wd = cl + 1 then (s.out, 0)
    else if badC cl s.rows s.last (takeL b s.p s.wd) = true then ([], 4)
    else if most < s.out.length + (rowC cl s.rows s.last (takeL b s.p s.wd)).length then ([], 6)
    else finC b n cl sz most k (s.step cl (rowC cl s.rows s.last (takeL b s.p s.wd)))
def cz0 (sz : Nat) : Cz := ⟨0, sz + 1, [], none, []⟩
/-- All of it: bytes, a size, a limit. -/
def lzwV (b : Nat → Nat) (n : Nat) (size most : Int) : List Nat × Nat :=
  if size < 2 ∨ 8 < size ∨ most < 0 then ([], 1) else finC b n (2 ^ size.toNat) size.toNat most.toNat (8 * n + 1) (cz0 size.toNat)

/-- A row that may be. -/
def RowOk (m : Nat) (l : List Nat) : Prop := l ≠ [] ∧ l.length ≤ m ∧ ∀ v ∈ l, v < 256
structure GoodC (n cl sz : Nat) (s : Cz) : Prop where
  clv : cl = 2 ^ sz
  sz2 : 2 ≤ sz
  sz8 : sz ≤ 8
  wd1 : 3 ≤ s.wd
  wd2 : s.wd ≤ 12
  p : s.p ≤ 8 * n
  full : cl + 2 + s.rows.length ≤ 4096
  rows : ∀ i l, s.rows[i]? = some l → RowOk (i + 2) l
  last : ∀ l, s.last = some l → RowOk (s.rows.length + 1) l
  none : s.last = none → s.rows = []
  out : ∀ v ∈ s.out, v < 256
theorem RowOk.mono {m m' : Nat} {l : List Nat} (h : RowOk m l) (hm : m ≤ m') : RowOk m' l := ⟨h.1, Nat.le_trans h.2.1 hm, h.2.2⟩
theorem cl_le {n cl sz : Nat} {s : Cz} (h : GoodC n cl sz s) : 4 ≤ cl ∧ cl ≤ 256 := by
  have h1 := h.sz2
  have h2 := h.sz8
  rw [h.clv]
  exact ⟨Nat.pow_le_pow_right (n := 2) (i := 2) (by omega) h1, Nat.pow_le_pow_right (n := 2) (j := 8) (by omega) h2⟩
theorem head_lt {m : Nat} {l : List Nat} (h : RowOk m l) : l.headD 0 < 256 := by
  obtain ⟨h1, _, h3⟩ := h
  cases l with
  | nil => exact absurd rfl h1
  | cons a t => exact h3 a (by simp)
theorem rowC_ok {n cl sz : Nat} {s : Cz} (h : GoodC n cl sz s) (c : Nat) (hc : c ≠ cl) (hc1 : c ≠ cl + 1) (hb : badC cl s.rows s.last c = false) :
    RowOk (s.rows.length + 2) (rowC cl s.rows s.last c) ∧ (∀ l, s.last = some l → c ≠ cl + 2 + s.rows.length → RowOk (s.rows.length + 1) (rowC cl s.rows s.last c)) ∧ (s.last = none → RowOk 1 (rowC cl s.rows s.last c)) := by
  have hcl := cl_le h
  unfold badC at hb
  unfold rowC
  by_cases h1 : c < cl
  · rw [if_pos h1]
    have : RowOk 1 [c] := ⟨by simp, by simp, by simp; omega⟩
    exact ⟨this.mono (by omega), fun _ _ _ => this.mono (by omega), fun _ => this⟩
  · rw [if_neg h1]
    simp only [h1, decide_false, Bool.not_false, Bool.true_and, Bool.or_eq_false_iff, decide_eq_false_iff_not] at hb
    obtain ⟨hl, hn⟩ := hb
    cases hlast : s.last with
    | none => rw [hlast] at hl; cases hl
    | some l =>
      have hok := h.last l hlast
      by_cases h2 : c = cl + 2 + s.rows.length
      · rw [if_pos h2]
        have h3 := head_lt hok
        refine ⟨⟨by simp, ?_, ?_⟩, fun _ _ h => absurd h2 h, fun h => by cases h⟩
        · have := hok.2.1
          simp
          omega
        · intro v hv
          simp only [Option.getD_some] at hv
          rcases List.mem_append.1 hv with hv | hv
          · exact hok.2.2 v hv
          · rw [List.mem_singleton.1 hv]; simpa using h3
      · rw [if_neg h2]
        have hlt : c - cl - 2 < s.rows.length := by omega
        have hg := List.getElem?_eq_getElem hlt
        have hr := h.rows _ _ hg
        rw [hg]
        simp only [Option.getD_some]
        exact ⟨hr.mono (by omega), fun _ _ _ => hr.mono (by omega), fun h => by cases h⟩
theorem GoodC.reset {n cl sz : Nat} {s : Cz} (h : GoodC n cl sz s) (hp : s.p + s.wd ≤ 8 * n) : GoodC n cl sz (s.reset sz) := by
  have h1 := h.sz2
  have h2 := h.sz8
  have hcl := cl_le h
  exact ⟨h.clv, h1, h2, by simp [Cz.reset]; omega, by simp [Cz.reset]; omega, hp, by simp [Cz.reset]; omega, by simp [Cz.reset], by simp [Cz.reset], by simp [Cz.reset], h.out⟩
theorem rowsC_len (cl : Nat) (rows : List (List Nat)) (last : Option (List Nat)) (row : List Nat) : (rowsC cl rows last row).length = if last.isSome = true ∧ cl + 2 + rows.length < 4096 then rows.length + 1 else rows.length := by
  unfold rowsC
  split <;> simp
theorem GoodC.step {n cl sz : Nat} {s : Cz} (h : GoodC n cl sz s) (hp : s.p + s.wd ≤ 8 * n) (c : Nat) (hlt : c < 4096) (hc : c ≠ cl) (hc1 : c ≠ cl + 1) (hb : badC cl s.rows s.last c = false) :
    GoodC n cl sz (s.step cl (rowC cl s.rows s.last c)) := by
  obtain ⟨r1, r2, r3⟩ := rowC_ok h c hc hc1 hb
  generalize rowC cl s.rows s.last c = row at *
  have hrl := rowsC_len cl s.rows s.last row
  have hw1 := h.wd1
  have hw2 := h.wd2
  have hfull := h.full
  refine ⟨h.clv, h.sz2, h.sz8, ?_, ?_, hp, ?_, ?_, ?_, ?_, ?_⟩
  · show 3 ≤ wideC cl s.wd s.rows s.last
    unfold wideC; split <;> omega
  · show wideC cl s.wd s.rows s.last ≤ 12
    unfold wideC; split <;> omega
  · show cl + 2 + (rowsC cl s.rows s.last row).length ≤ 4096
    rw [hrl]
    split <;> omega
  · intro i l hi
    have hi' : (rowsC cl s.rows s.last row)[i]? = some l := hi
    unfold rowsC at hi'
    split at hi'
    · rename_i hc2
      by_cases hlt : i < s.rows.length
      · rw [List.getElem?_append_left hlt] at hi'
        exact h.rows i l hi'
      · rw [List.getElem?_append_right (by omega)] at hi'
        obtain ⟨l0, hl0⟩ := Option.isSome_iff_exists.1 hc2.1
        have hok := h.last l0 hl0
        have hi0 : i - s.rows.length = 0 := by
          have := (List.getElem?_eq_some_iff.1 hi').1
          simp at this
          omega
        rw [hi0, hl0] at hi'
        simp at hi'
        subst hi'
        have h3 := head_lt r1
        refine ⟨by simp, ?_, ?_⟩
        · have := hok.2.1
          simp
          omega
        · intro v hv
          rcases List.mem_append.1 hv with hv | hv
          · exact hok.2.2 v hv
          · rw [List.mem_singleton.1 hv]; simpa using h3
    · exact h.rows i l hi'
  · intro l hl
    have hl' : some row = some l := hl
    injection hl' with hl'
    subst hl'
    show RowOk ((rowsC cl s.rows s.last row).length + 1) row
    rw [hrl]
    cases hlast : s.last with
    | none => exact (r3 hlast).mono (by omega)
    | some l0 =>
      simp only [Option.isSome_some, true_and]
      split
      · exact r1
      · exact (r2 l0 hlast (by omega)).mono (by omega)
  · intro hn
    cases hn
  · intro v hv
    have hv' : v ∈ s.out ++ row := hv
    rcases List.mem_append.1 hv' with hv | hv
    · exact h.out v hv
    · exact r1.2.2 v hv
theorem good0 (n sz : Nat) (h1 : 2 ≤ sz) (h2 : sz ≤ 8) : GoodC n (2 ^ sz) sz (cz0 sz) := by
  have hcl : 2 ^ sz ≤ 256 := Nat.pow_le_pow_right (n := 2) (j := 8) (by omega) h2
  exact ⟨rfl, h1, h2, by simp [cz0]; omega, by simp [cz0]; omega, by simp [cz0], by simp [cz0]; omega, by simp [cz0], by simp [cz0], by simp [cz0], by simp [cz0]⟩
end Go.Proofs.Ytioghgnngdcicaa
