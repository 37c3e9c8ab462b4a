/- Two pixels compared. -/
import Derived.Test.YthgafdbdmemkhaaUni
import Derived.Laws.StructEq
namespace Go.Proofs.Ythgafdbdmemkhaa
set_option linter.unusedVariables false
open Go.ChangeShapes Go.WideShapes Go.ChangeAt Go.RowKit

def vP (p : P4) : Value := .agg #[.int .u16 (p.1 : Nat), .int .u16 (p.2.1 : Nat), .int .u16 (p.2.2.1 : Nat), .int .u16 (p.2.2.2 : Nat)]
theorem run_isAgg38 (w : World) : (isAgg 28).run Try.prog w = .ok false w := by kernel_rfl
theorem run_sizeOf38 (w : World) : (sizeOf 28).run Try.prog w = .ok 1 w := by kernel_rfl
theorem range4 : List.range' 0 4 = [0, 1, 2, 3] := rfl
set_option maxRecDepth 100000 in
theorem run_eq41 (d : Nat) (a0 a1 a2 a3 b0 b1 b2 b3 : Int) (w : World) :
    (Op.equalIn (d + 2) 48 (.agg #[.int .u16 a0, .int .u16 a1, .int .u16 a2, .int .u16 a3]) (.agg #[.int .u16 b0, .int .u16 b1, .int .u16 b2, .int .u16 b3])).run Try.prog w
      = .ok (a0 == b0 && (a1 == b1 && (a2 == b2 && a3 == b3))) w := by
  have e : ∀ (x y : Int) W, (Op.equalIn (d + 1) 28 (.int .u16 x) (.int .u16 y)).run Try.prog W = .ok (x == y) W := fun x y W => run_equalIn_int W d 28 .u16 .u16 x y Try.underlying28
  rw [Op.equalIn]
  simp only [Sem.run_bind, run_underlying Try.underlying48, Result.andThen_ok, run_sizeOf38, part]
  simp [range4, Std.Legacy.Range.forIn_eq_forIn_range', Std.Legacy.Range.size, List.forIn_cons, run_isAgg38, e]
  by_cases h0 : a0 = b0 <;> by_cases h1 : a1 = b1 <;> by_cases h2 : a2 = b2 <;> by_cases h3 : a3 = b3 <;> simp [h0, h1, h2, h3]
theorem run_eqP (p q : P4) (w : World) : (Op.equalIn 10000 48 (.agg #[.int .u16 (p.1 : Nat), .int .u16 (p.2.1 : Nat), .int .u16 (p.2.2.1 : Nat), .int .u16 (p.2.2.2 : Nat)]) (.agg #[.int .u16 (q.1 : Nat), .int .u16 (q.2.1 : Nat), .int .u16 (q.2.2.1 : Nat), .int .u16 (q.2.2.2 : Nat)])).run Try.prog w
    = .ok (decide (p = q)) w := by
  have h := run_eq41 9998 p.1 p.2.1 p.2.2.1 p.2.2.2 q.1 q.2.1 q.2.2.1 q.2.2.2 w
  rw [show 10000 = 9998 + 2 from rfl, h]
  congr 1
  obtain ⟨a, b, c, d⟩ := p
  obtain ⟨a', b', c', d'⟩ := q
  rw [Bool.eq_iff_iff]
  simp only [Bool.and_eq_true, beq_iff_eq, decide_eq_true_eq, Prod.mk.injEq]
  omega

/-! ### The list of unlike pixels, and each pixel's place -/
def U (c : Nat → Nat) (i : Nat) : List P4 := uni (ll c i)
theorem U_succ (c : Nat → Nat) (i : Nat) : U c (i + 1) = if p4 c i ∈ U c i then U c i else U c i ++ [p4 c i] := by
  unfold U ll
  rw [List.range_succ, List.map_append]
  unfold uni
  rw [List.foldl_append]
  rfl
theorem U_le (c : Nat → Nat) (i : Nat) : (U c i).length ≤ i := by
  induction i with
  | zero => simp [U, ll, uni]
  | succ i ih =>
    rw [U_succ]
    split
    · omega
    · simp; omega
theorem U_mono1 (c : Nat → Nat) (i : Nat) : (U c i).length ≤ (U c (i + 1)).length := by rw [U_succ]; split <;> simp
theorem U_mono (c : Nat → Nat) {i k : Nat} (h : i ≤ k) : (U c i).length ≤ (U c k).length := by
  obtain ⟨d, rfl⟩ := Nat.le.dest h
  clear h
  induction d with
  | zero => simp
  | succ d ih => exact Nat.le_trans ih (U_mono1 c (i + d))
def pl (c : Nat → Nat) (i : Nat) : List Nat := (List.range i).map fun j => (U c j).idxOf (p4 c j)
theorem pl_succ (c : Nat → Nat) (i : Nat) : pl c (i + 1) = pl c i ++ [(U c i).idxOf (p4 c i)] := by
  unfold pl
  rw [List.range_succ, List.map_append]
  rfl
theorem pl_len (c : Nat → Nat) (i : Nat) : (pl c i).length = i := by simp [pl]
def cP (p : P4) : List Value := [.int .u16 (p.1 : Nat), .int .u16 (p.2.1 : Nat), .int .u16 (p.2.2.1 : Nat), .int .u16 (p.2.2.2 : Nat)]
def cellsP (l : List P4) : List Value := l.flatMap cP
theorem cellsP_len (l : List P4) : (cellsP l).length = l.length * 4 := by
  induction l with
  | nil => rfl
  | cons p l ih =>
    show (cP p ++ cellsP l).length = _
    rw [List.length_append, ih]
    simp [cP]
    omega
theorem cellsP_get (l : List P4) (k : Nat) (p : P4) (h : l[k]? = some p) (j : Nat) (hj : j < 4) : (cellsP l)[k * 4 + j]? = (cP p)[j]? := by
  induction l generalizing k with
  | nil => simp at h
  | cons q l ih =>
    show (cP q ++ cellsP l)[k * 4 + j]? = _
    cases k with
    | zero =>
      simp at h
      subst h
      rw [List.getElem?_append_left (by simp [cP]; omega)]
      simp
    | succ k =>
      rw [List.getElem?_append_right (by simp [cP]; omega)]
      have e : (k + 1) * 4 + j - (cP q).length = k * 4 + j := by simp [cP]; omega
      rw [e]
      exact ih k (by simpa using h)
theorem cellsP_snoc (l : List P4) (p : P4) : cellsP (l ++ [p]) = cellsP l ++ cP p := by simp [cellsP]
theorem cP_one (p : P4) : ∀ u ∈ cP p, u.oneCell' = true := by intro u hu; simp [cP] at hu; rcases hu with rfl | rfl | rfl | rfl <;> rfl
def cellsI (l : List Nat) : List Value := l.map fun n => .int .i64 (n : Nat)
theorem cellsI_snoc (l : List Nat) (n : Nat) : cellsI (l ++ [n]) = cellsI l ++ [.int .i64 (n : Nat)] := by simp [cellsI]
theorem idx_found {l : List P4} {p : P4} {k : Nat} (h : l[k]? = some p) (hn : ∀ j, j < k → l[j]? ≠ some p) : l.idxOf p = k ∧ p ∈ l := by
  induction l generalizing k with
  | nil => simp at h
  | cons q l ih =>
    cases k with
    | zero => simp at h; subst h; simp
    | succ k =>
      have h0 : q ≠ p := by have := hn 0 (by omega); simpa using this
      have h1 := ih (k := k) (by simpa using h) (fun j hj => by have := hn (j + 1) (by omega); simpa using this)
      refine ⟨?_, by simp [h1.2]⟩
      have e9 : (q == p) = false := beq_eq_false_iff_ne.2 h0
      rw [List.idxOf_cons, e9, h1.1]
      rfl
theorem idx_none {l : List P4} {p : P4} (hn : ∀ j, j < l.length → l[j]? ≠ some p) : l.idxOf p = l.length ∧ p ∉ l := by
  have h : p ∉ l := by
    intro h
    obtain ⟨j, hj, e⟩ := List.getElem_of_mem h
    exact hn j hj (by rw [List.getElem?_eq_getElem hj, e])
  exact ⟨List.idxOf_eq_length h, h⟩
end Go.Proofs.Ythgafdbdmemkhaa
