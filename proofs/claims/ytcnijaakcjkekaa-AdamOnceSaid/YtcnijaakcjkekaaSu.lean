/- Plain sums over the seven passes: pixels, rows, bytes. -/
import Derived.Test.YtcnijaakcjkekaaAw
namespace Go.Proofs.Ytcnijaakcjkekaa
set_option linter.unusedVariables false
open Go.RowKit

def sumF (f : P6 → Int) (l : List P6) : Int := (l.map f).sum
theorem sumF_cons (f : P6 → Int) (p : P6) (l : List P6) : sumF f (p :: l) = f p + sumF f l := by simp [sumF]
theorem sumF_nil (f : P6 → Int) : sumF f [] = 0 := rfl
theorem sumF_snoc (f : P6 → Int) (l : List P6) (k : Nat) (p : P6) (hp : l[k]? = some p) : sumF f (l.take (k + 1)) = sumF f (l.take k) + f p := by
  have hk := (List.getElem?_eq_some_iff.1 hp).1
  have e := (List.getElem?_eq_some_iff.1 hp).2
  unfold sumF
  rw [List.take_succ_eq_append_getElem hk, e]
  simp
theorem sumF_filter (f : P6 → Int) (l : List P6) : sumF f (l.filter good6) = sumF (fun p => if good6 p then f p else 0) l := by
  induction l with
  | nil => rfl
  | cons p l ih =>
    rw [sumF_cons, ← ih]
    cases h : good6 p <;> simp [h, sumF_cons]
theorem sumF_le (f g : P6 → Int) (l : List P6) (h : ∀ p ∈ l, f p ≤ g p) : sumF f l ≤ sumF g l := by
  induction l with
  | nil => exact Int.le_refl _
  | cons p l ih =>
    rw [sumF_cons, sumF_cons]
    have := h p (by simp)
    have := ih (fun q hq => h q (by simp [hq]))
    omega
theorem sumF_congr (f g : P6 → Int) (l : List P6) (h : ∀ p ∈ l, f p = g p) : sumF f l = sumF g l := by
  induction l with
  | nil => rfl
  | cons p l ih =>
    rw [sumF_cons, sumF_cons, h p (by simp), ih (fun q hq => h q (by simp [hq]))]
theorem sumF_mul (f : P6 → Int) (c : Int) (l : List P6) : sumF (fun p => c * f p) l = c * sumF f l := by
  induction l with
  | nil => simp [sumF_nil]
  | cons p l ih => rw [sumF_cons, sumF_cons, ih, Int.mul_add]
theorem sumF_sub (f g : P6 → Int) (l : List P6) : sumF (fun p => f p - g p) l = sumF f l - sumF g l := by
  induction l with
  | nil => simp [sumF_nil]
  | cons p l ih => rw [sumF_cons, sumF_cons, sumF_cons, ih]; omega
theorem sumF_bd (f : P6 → Int) (c : Int) (l : List P6) (h : ∀ p ∈ l, 0 ≤ f p ∧ f p ≤ c) (hc : 0 ≤ c) : 0 ≤ sumF f l ∧ sumF f l ≤ l.length * c := by
  induction l with
  | nil => simp [sumF_nil]
  | cons p l ih =>
    rw [sumF_cons]
    have h1 := h p (by simp)
    have h2 := ih (fun q hq => h q (by simp [hq]))
    have e : ((p :: l).length : Int) * c = l.length * c + c := by simp [Int.add_mul]
    rw [e]
    omega

/-- How the steps' counts add up. -/
structure Parts (n : Int) (c08 c48 c04 c24 c02 c12 : Int) : Prop where
  e1 : c08 + c48 = c04
  e2 : c04 + c24 = c02
  e3 : c02 + c12 = n
  p1 : 1 ≤ c08
  p2 : 0 ≤ c48
  p4 : 0 ≤ c24
  p6 : 0 ≤ c12
theorem parts (n : Int) (h : 1 ≤ n) : Parts n (many 0 8 n) (many 4 8 n) (many 0 4 n) (many 2 4 n) (many 0 2 n) (many 1 2 n) := by
  unfold many
  constructor <;> (repeat' split) <;> omega
theorem many01 (n : Int) (h : 1 ≤ n) : many 0 1 n = n := by
  unfold many
  rw [if_neg (by omega)]
  simp
def pixF (p : P6) : Int := p.w * p.h
def rowF (p : P6) : Int := p.h
def byteF (n : Int) (p : P6) : Int := p.h * (1 + rowV p.w n)
theorem nonneg_bad (p : P6) (hw : 0 ≤ p.w) (hh : 0 ≤ p.h) : (if good6 p then pixF p else 0) = pixF p := by
  split
  · rfl
  · rename_i h
    have h' : ¬ (0 < p.w ∧ 0 < p.h) := by simpa [good6] using h
    have : p.w = 0 ∨ p.h = 0 := by omega
    rcases this with e | e <;> simp [pixF, e]
theorem pix_sum (a b : Int) (ha : 1 ≤ a) (hb : 1 ≤ b) : sumF pixF ((sevenL a b).filter good6) = a * b := by
  rw [sumF_filter]
  obtain ⟨a1, a2, a3, a4, a5, a6, a7⟩ := parts a ha
  obtain ⟨b1, b2, b3, b4, b5, b6, b7⟩ := parts b hb
  have ea := many01 a ha
  have eb := many01 b hb
  have h0 : ∀ p ∈ sevenL a b, (if good6 p then pixF p else 0) = pixF p := by
    intro p hp
    simp only [sevenL, List.mem_cons, List.not_mem_nil, or_false] at hp
    rcases hp with rfl | rfl | rfl | rfl | rfl | rfl | rfl <;> exact nonneg_bad _ (by simp only [ofL]; omega) (by simp only [ofL]; omega)
  rw [sumF_congr _ _ _ h0]
  simp only [sevenL, sumF_cons, sumF_nil, pixF, ofL]
  rw [ea]
  generalize many 0 8 a = x1 at *
  generalize many 4 8 a = x2 at *
  generalize many 0 4 a = x3 at *
  generalize many 2 4 a = x4 at *
  generalize many 0 2 a = x5 at *
  generalize many 1 2 a = x6 at *
  generalize many 0 8 b = y1 at *
  generalize many 4 8 b = y2 at *
  generalize many 0 4 b = y3 at *
  generalize many 2 4 b = y4 at *
  generalize many 0 2 b = y5 at *
  generalize many 1 2 b = y6 at *
  subst a3 a2 a1 b3 b2 b1
  simp only [Int.add_mul, Int.mul_add]
  omega
theorem good_row (p : P6) (hw : 1 ≤ p.w) (hh : 0 ≤ p.h) : (if good6 p then rowF p else 0) = p.h := by
  split
  · rfl
  · rename_i h
    have h' : ¬ (0 < p.w ∧ 0 < p.h) := by simpa [good6] using h
    omega
theorem good_nonneg (p : P6) (hh : 0 ≤ p.h) : 0 ≤ (if good6 p then rowF p else 0) := by
  split
  · exact hh
  · omega
theorem row_sum (a b : Int) (ha : 1 ≤ a) (hb : 1 ≤ b) : b ≤ sumF rowF ((sevenL a b).filter good6) := by
  rw [sumF_filter]
  obtain ⟨a1, a2, a3, a4, a5, a6, a7⟩ := parts a ha
  obtain ⟨b1, b2, b3, b4, b5, b6, b7⟩ := parts b hb
  have ea := many01 a ha
  simp only [sevenL, sumF_cons, sumF_nil]
  have g1 := good_row (ofL 0 0 8 8 a b) (by simp only [ofL]; omega) (by simp only [ofL]; omega)
  have g2 := good_nonneg (ofL 4 0 8 8 a b) (by simp only [ofL]; omega)
  have g3 := good_row (ofL 0 4 4 8 a b) (by simp only [ofL]; omega) (by simp only [ofL]; omega)
  have g4 := good_nonneg (ofL 2 0 4 4 a b) (by simp only [ofL]; omega)
  have g5 := good_row (ofL 0 2 2 4 a b) (by simp only [ofL]; omega) (by simp only [ofL]; omega)
  have g6 := good_nonneg (ofL 1 0 2 2 a b) (by simp only [ofL]; omega)
  have g7 := good_row (ofL 0 1 1 2 a b) (by simp only [ofL]; omega) (by simp only [ofL]; omega)
  rw [g1, g3, g5, g7]
  simp only [ofL] at *
  omega
theorem many_le (x d n : Int) (hx : 0 ≤ x) (hd : 1 ≤ d) (hn : 0 ≤ n) : 0 ≤ many x d n ∧ many x d n ≤ n := by
  unfold many
  split
  · omega
  · refine ⟨Int.ediv_nonneg (by omega) (by omega), ?_⟩
    have h2 : (n - x + d - 1) / d < n + 1 := by
      rw [Int.ediv_lt_iff_lt_mul (by omega)]
      have : n * 1 ≤ n * d := Int.mul_le_mul_of_nonneg_left hd hn
      rw [Int.add_mul]
      omega
    omega
theorem seven_mem (a b : Int) (ha : 1 ≤ a) (hb : 1 ≤ b) (p : P6) (hp : p ∈ (sevenL a b).filter good6) : 1 ≤ p.w ∧ p.w ≤ a ∧ 1 ≤ p.h ∧ p.h ≤ b := by
  rw [List.mem_filter] at hp
  obtain ⟨hm, hg⟩ := hp
  have hg' : 0 < p.w ∧ 0 < p.h := by simpa [good6] using hg
  have hle : p.w ≤ a ∧ p.h ≤ b := by
    simp only [sevenL, List.mem_cons, List.not_mem_nil, or_false] at hm
    rcases hm with rfl | rfl | rfl | rfl | rfl | rfl | rfl <;> exact ⟨(many_le _ _ _ (by omega) (by omega) (by omega)).2, (many_le _ _ _ (by omega) (by omega) (by omega)).2⟩
  omega
theorem byte_row (n : Int) (hn : 0 ≤ n) (hn' : n ≤ 64) (p : P6) (hw : 1 ≤ p.w) (hw' : p.w ≤ 256) (hh : 1 ≤ p.h) : pixF p * n ≤ 8 * (byteF n p - rowF p) := by
  have hr : rowV p.w n = (p.w * n + 7) / 8 := by
    have e1 : sideB p.w = true := (sideB_iff _).2 ⟨by omega, by omega⟩
    have e2 : bitB n = true := (bitB_iff _).2 ⟨hn, hn'⟩
    simp [rowV, e1, e2]
  unfold pixF byteF rowF
  rw [hr]
  have e3 : p.w * p.h * n = p.h * (p.w * n) := by rw [Int.mul_comm p.w p.h, Int.mul_assoc]
  rw [e3, Int.mul_add, Int.mul_one]
  have h1 : p.w * n ≤ 8 * ((p.w * n + 7) / 8) := by omega
  have h2 := Int.mul_le_mul_of_nonneg_left h1 (show 0 ≤ p.h by omega)
  have e4 : p.h * (8 * ((p.w * n + 7) / 8)) = 8 * (p.h * ((p.w * n + 7) / 8)) := by rw [← Int.mul_assoc, Int.mul_comm p.h 8, Int.mul_assoc]
  rw [e4] at h2
  omega
theorem byte_sum (a b n : Int) (ha : 1 ≤ a) (ha' : a ≤ 64) (hb : 1 ≤ b) (hb' : b ≤ 64) (hn : 0 ≤ n) (hn' : n ≤ 64) :
    a * b * n ≤ 8 * (sumF (byteF n) ((sevenL a b).filter good6) - sumF rowF ((sevenL a b).filter good6)) := by
  rw [← sumF_sub, ← sumF_mul, ← pix_sum a b ha hb, Int.mul_comm, ← sumF_mul]
  refine sumF_le _ _ _ fun p hp => ?_
  obtain ⟨h1, h2, h3, h4⟩ := seven_mem a b ha hb p hp
  rw [Int.mul_comm]
  exact byte_row n hn hn' p h1 (by omega) h3
end Go.Proofs.Ytcnijaakcjkekaa
