/- Each pixel is in just one pass: plain. -/
import Derived.Test.YtcnijaakcjkekaaSw
namespace Go.Proofs.Ytcnijaakcjkekaa
set_option linter.unusedVariables false
open Go.RowKit

def InP (p : P6) (px py : Nat) : Prop := ∃ x y : Nat, (px : Int) = p.x + x * p.dx ∧ (py : Int) = p.y + y * p.dy
def Vis (pre : List P6) (p : P6) (y x : Nat) (px py : Nat) : Prop :=
  (∃ q, q ∈ pre ∧ InP q px py) ∨ ∃ x' y' : Nat, (px : Int) = p.x + x' * p.dx ∧ (py : Int) = p.y + y' * p.dy ∧ (y' < y ∨ (y' = y ∧ x' < x))
def VisL (pre : List P6) (px py : Nat) : Prop := ∃ q, q ∈ pre ∧ InP q px py
/-- A pass of a picture of sides a, b. -/
structure Ok6 (p : P6) (a b : Nat) : Prop where
  x0 : 0 ≤ p.x
  y0 : 0 ≤ p.y
  dx : 1 ≤ p.dx
  dx8 : p.dx ≤ 8
  dy : 1 ≤ p.dy
  dy8 : p.dy ≤ 8
  w : p.w = many p.x p.dx a
  h : p.h = many p.y p.dy b
  w1 : 1 ≤ p.w
  w2 : p.w ≤ a
  h1 : 1 ≤ p.h
  h2 : p.h ≤ b

theorem vis_start (pre : List P6) (p : P6) (px py : Nat) : Vis pre p 0 0 px py ↔ VisL pre px py := by
  unfold Vis VisL
  constructor
  · rintro (h | ⟨x', y', _, _, h | ⟨_, h⟩⟩)
    · exact h
    · omega
    · omega
  · exact fun h => .inl h
theorem vis_step (pre : List P6) (p : P6) (a b : Nat) (hp : Ok6 p a b) (y x qx qy : Nat) (hx : (qx : Int) = p.x + x * p.dx) (hy : (qy : Int) = p.y + y * p.dy) (px py : Nat) :
    Vis pre p y (x + 1) px py ↔ (Vis pre p y x px py ∨ (px = qx ∧ py = qy)) := by
  unfold Vis
  constructor
  · rintro (h | ⟨x', y', h1, h2, h | ⟨h, h'⟩⟩)
    · exact .inl (.inl h)
    · exact .inl (.inr ⟨x', y', h1, h2, .inl h⟩)
    · by_cases e : x' = x
      · subst e h
        exact .inr ⟨by omega, by omega⟩
      · exact .inl (.inr ⟨x', y', h1, h2, .inr ⟨h, by omega⟩⟩)
  · rintro ((h | ⟨x', y', h1, h2, h | ⟨h, h'⟩⟩) | ⟨rfl, rfl⟩)
    · exact .inl h
    · exact .inr ⟨x', y', h1, h2, .inl h⟩
    · exact .inr ⟨x', y', h1, h2, .inr ⟨h, by omega⟩⟩
    · exact .inr ⟨x, y, hx, hy, .inr ⟨rfl, by omega⟩⟩
theorem mul_inj {d : Int} (hd : 1 ≤ d) {m n : Nat} (h : (m : Int) * d = n * d) : m = n := by
  have := Int.eq_of_mul_eq_mul_right (show d ≠ 0 by omega) h
  omega
theorem vis_not (pre : List P6) (p : P6) (a b : Nat) (hp : Ok6 p a b) (hun : ∀ q, q ∈ pre → ∀ px py, ¬ (InP q px py ∧ InP p px py)) (y x qx qy : Nat) (hx : (qx : Int) = p.x + x * p.dx) (hy : (qy : Int) = p.y + y * p.dy) :
    ¬ Vis pre p y x qx qy := by
  rintro (⟨q, hq, h⟩ | ⟨x', y', h1, h2, h⟩)
  · exact hun q hq qx qy ⟨h, ⟨x, y, hx, hy⟩⟩
  · have ex : x' = x := mul_inj hp.dx (by omega)
    have ey : y' = y := mul_inj hp.dy (by omega)
    omega
theorem col_lt {p : P6} {x0 d n : Int} {x' : Nat} {c : Int} (hd : 1 ≤ d) (h : c = x0 + x' * d) (hc : c < n) : (x' : Int) < many x0 d n := by
  have := (many_step (x := x0) (d := d) (n := n) (xk := c) (k := x') hd h hc).1
  omega
theorem vis_row (pre : List P6) (p : P6) (a b : Nat) (hp : Ok6 p a b) (y W : Nat) (hW : p.w = W) (px py : Nat) (hpx : px < a) :
    Vis pre p y W px py ↔ Vis pre p (y + 1) 0 px py := by
  unfold Vis
  constructor
  · rintro (h | ⟨x', y', h1, h2, h | ⟨h, h'⟩⟩)
    · exact .inl h
    · exact .inr ⟨x', y', h1, h2, .inl (by omega)⟩
    · exact .inr ⟨x', y', h1, h2, .inl (by omega)⟩
  · rintro (h | ⟨x', y', h1, h2, h | ⟨h, h'⟩⟩)
    · exact .inl h
    · refine .inr ⟨x', y', h1, h2, ?_⟩
      by_cases e : y' = y
      · refine .inr ⟨e, ?_⟩
        have := col_lt (p := p) hp.dx h1 (show (px : Int) < (a : Int) by omega)
        have := hp.w
        omega
      · exact .inl (by omega)
    · omega
theorem vis_pass (pre : List P6) (p : P6) (a b : Nat) (hp : Ok6 p a b) (H : Nat) (hH : p.h = H) (px py : Nat) (hpy : py < b) :
    Vis pre p H 0 px py ↔ VisL (pre ++ [p]) px py := by
  unfold Vis VisL
  constructor
  · rintro (⟨q, hq, h⟩ | ⟨x', y', h1, h2, h⟩)
    · exact ⟨q, by simp [hq], h⟩
    · exact ⟨p, by simp, x', y', h1, h2⟩
  · rintro ⟨q, hq, h⟩
    rw [List.mem_append] at hq
    rcases hq with hq | hq
    · exact .inl ⟨q, hq, h⟩
    · simp at hq
      subst hq
      obtain ⟨x', y', h1, h2⟩ := h
      refine .inr ⟨x', y', h1, h2, .inl ?_⟩
      have := col_lt (p := q) hp.dy h2 (show (py : Int) < (b : Int) by omega)
      have := hp.h
      omega

def Apart (p q : P6) : Prop := ∀ px py, ¬ (InP p px py ∧ InP q px py)
theorem seven_apart (a b : Int) : (sevenL a b).Pairwise Apart := by
  unfold sevenL
  simp only [List.pairwise_cons, List.mem_cons, List.not_mem_nil, or_false, List.Pairwise.nil, and_true, false_implies, implies_true]
  refine ⟨?_, ?_, ?_, ?_, ?_, ?_⟩
  all_goals
    rintro q hq
    rcases hq with rfl | rfl | rfl | rfl | rfl | rfl <;> (rintro px py ⟨⟨x, y, h1, h2⟩, ⟨x', y', h3, h4⟩⟩; simp only [ofL] at h1 h2 h3 h4; omega)
theorem many_pos {x d n : Int} (hd : 1 ≤ d) (h : x < n) : 0 < many x d n := by
  unfold many
  rw [if_neg (by omega)]
  have : 1 ≤ (n - x + d - 1) / d := by
    rw [Int.le_ediv_iff_mul_le (by omega)]
    omega
  omega
theorem good_of {x y dx dy a b : Int} (hx : 1 ≤ dx) (hy : 1 ≤ dy) (h1 : x < a) (h2 : y < b) : good6 (ofL x y dx dy a b) = true := by
  have := many_pos hx h1
  have := many_pos hy h2
  simp [good6, ofL, *]
theorem seven_all (a b px py : Nat) (hx : px < a) (hy : py < b) : VisL ((sevenL a b).filter good6) px py := by
  have key : ∀ q, q ∈ sevenL a b → good6 q = true → InP q px py → VisL ((sevenL a b).filter good6) px py := fun q h1 h2 h3 => ⟨q, List.mem_filter.2 ⟨h1, h2⟩, h3⟩
  by_cases c1 : py % 2 = 1
  · exact key (ofL 0 1 1 2 a b) (by simp [sevenL]) (good_of (by omega) (by omega) (by omega) (by omega)) ⟨px, (py - 1) / 2, by simp only [ofL]; omega, by simp only [ofL]; omega⟩
  · by_cases c2 : px % 2 = 1
    · exact key (ofL 1 0 2 2 a b) (by simp [sevenL]) (good_of (by omega) (by omega) (by omega) (by omega)) ⟨(px - 1) / 2, py / 2, by simp only [ofL]; omega, by simp only [ofL]; omega⟩
    · by_cases c3 : py % 4 = 2
      · exact key (ofL 0 2 2 4 a b) (by simp [sevenL]) (good_of (by omega) (by omega) (by omega) (by omega)) ⟨px / 2, (py - 2) / 4, by simp only [ofL]; omega, by simp only [ofL]; omega⟩
      · by_cases c4 : px % 4 = 2
        · exact key (ofL 2 0 4 4 a b) (by simp [sevenL]) (good_of (by omega) (by omega) (by omega) (by omega)) ⟨(px - 2) / 4, py / 4, by simp only [ofL]; omega, by simp only [ofL]; omega⟩
        · by_cases c5 : py % 8 = 4
          · exact key (ofL 0 4 4 8 a b) (by simp [sevenL]) (good_of (by omega) (by omega) (by omega) (by omega)) ⟨px / 4, (py - 4) / 8, by simp only [ofL]; omega, by simp only [ofL]; omega⟩
          · by_cases c6 : px % 8 = 4
            · exact key (ofL 4 0 8 8 a b) (by simp [sevenL]) (good_of (by omega) (by omega) (by omega) (by omega)) ⟨(px - 4) / 8, py / 8, by simp only [ofL]; omega, by simp only [ofL]; omega⟩
            · exact key (ofL 0 0 8 8 a b) (by simp [sevenL]) (good_of (by omega) (by omega) (by omega) (by omega)) ⟨px / 8, py / 8, by simp only [ofL]; omega, by simp only [ofL]; omega⟩
theorem seven_ok (a b : Nat) (ha : 1 ≤ a) (hb : 1 ≤ b) (p : P6) (hp : p ∈ (sevenL a b).filter good6) : Ok6 p a b := by
  have hm := seven_mem a b (by omega) (by omega) p hp
  rw [List.mem_filter] at hp
  have hs := hp.1
  simp only [sevenL, List.mem_cons, List.not_mem_nil, or_false] at hs
  rcases hs with rfl | rfl | rfl | rfl | rfl | rfl | rfl <;> exact ⟨by simp [ofL], by simp [ofL], by simp [ofL], by simp [ofL], by simp [ofL], by simp [ofL], rfl, rfl, hm.1, hm.2.1, hm.2.2.1, hm.2.2.2⟩
theorem apart_take (a b : Nat) (k : Nat) (p : P6) (hp : ((sevenL a b).filter good6)[k]? = some p) (q : P6) (hq : q ∈ ((sevenL a b).filter good6).take k) (px py : Nat) : ¬ (InP q px py ∧ InP p px py) := by
  have hpw : ((sevenL a b).filter good6).Pairwise Apart := (seven_apart a b).filter _
  have hk := (List.getElem?_eq_some_iff.1 hp).1
  have he := (List.getElem?_eq_some_iff.1 hp).2
  obtain ⟨i, hi, hqi⟩ := List.getElem_of_mem hq
  have hi' : i < k := by
    have := List.length_take_le k ((sevenL a b).filter good6)
    omega
  rw [List.pairwise_iff_getElem] at hpw
  have := hpw i k (by omega) hk hi' px py
  rw [he] at this
  rw [List.getElem_take] at hqi
  rw [hqi] at this
  exact this
end Go.Proofs.Ytcnijaakcjkekaa
