/- The plain part of PaletteOrder: colours named anew. -/
import Derived.Test.YtnjlklcggcfcgaaPlBk
namespace Go.Proofs.Ytnjlklcggcfcgaa
set_option linter.unusedVariables false
open Go.ChangeShapes Go.WideShapes Go.ChangeAt Go.RowKit

/-- f tells the members of l apart. -/
def InjOn (f : P4 → P4) (l : List P4) : Prop := ∀ p ∈ l, ∀ q ∈ l, f p = f q → p = q
theorem mem_map_inj {f : P4 → P4} {l m : List P4} (h : InjOn f l) (hm : ∀ x ∈ m, x ∈ l) {p : P4} (hp : p ∈ l) : f p ∈ m.map f ↔ p ∈ m := by
  constructor
  · intro h1
    obtain ⟨q, hq, e⟩ := List.mem_map.1 h1
    rw [← h q (hm q hq) p hp e]
    exact hq
  · exact fun h1 => List.mem_map.2 ⟨p, h1, rfl⟩
theorem idx_map_inj {f : P4 → P4} {l m : List P4} (h : InjOn f l) (hm : ∀ x ∈ m, x ∈ l) {p : P4} (hp : p ∈ l) : (m.map f).idxOf (f p) = m.idxOf p := by
  induction m with
  | nil => rfl
  | cons x m ih =>
    rw [List.map_cons, List.idxOf_cons, List.idxOf_cons, ih (fun y hy => hm y (by simp [hy]))]
    by_cases e : x = p
    · subst e; simp
    · have e2 : ¬f x = f p := fun e3 => e (h x (hm x (by simp)) p hp e3)
      rw [show (f x == f p) = false from beq_eq_false_iff_ne.2 e2, show (x == p) = false from beq_eq_false_iff_ne.2 e]
theorem U_map {c d : Nat → Nat} {f : P4 → P4} {N : Nat} (hd : ∀ i, i < N → p4 d i = f (p4 c i)) (hf : InjOn f (ll c N)) {i : Nat} (hi : i ≤ N) : U d i = (U c i).map f := by
  induction i with
  | zero => rfl
  | succ i ih =>
    have ih := ih (by omega)
    have hmem : p4 c i ∈ ll c N := List.mem_map.2 ⟨i, by simp; omega, rfl⟩
    have hsub : ∀ x ∈ U c i, x ∈ ll c N := fun x hx => by
      obtain ⟨j, hj, rfl⟩ := U_mem hx
      exact List.mem_map.2 ⟨j, by simp; omega, rfl⟩
    rw [U_succ, U_succ, ih, hd i (by omega)]
    by_cases h : p4 c i ∈ U c i
    · rw [if_pos h, if_pos ((mem_map_inj hf hsub hmem).2 h)]
    · rw [if_neg h, if_neg (fun h1 => h ((mem_map_inj hf hsub hmem).1 h1)), List.map_append]
      rfl
theorem pl_map {c d : Nat → Nat} {f : P4 → P4} {N : Nat} (hd : ∀ i, i < N → p4 d i = f (p4 c i)) (hf : InjOn f (ll c N)) : pl d N = pl c N := by
  unfold pl
  apply List.map_congr_left
  intro i hi
  have hi' : i < N := by simpa using hi
  have hsub : ∀ x ∈ U c i, x ∈ ll c N := fun x hx => by
    obtain ⟨j, hj, rfl⟩ := U_mem hx
    exact List.mem_map.2 ⟨j, by simp; omega, rfl⟩
  rw [U_map hd hf (by omega), hd i hi', idx_map_inj hf hsub (List.mem_map.2 ⟨i, by simp; omega, rfl⟩)]
/-- A sample named anew. -/
def ren (t x : Nat) : Nat := (x / 257 + t) % 256 * 257
theorem ren_lt (t x : Nat) : ren t x < 65536 := by unfold ren; omega
theorem ren_257 (t x : Nat) : ren t x % 257 = 0 := by unfold ren; omega
theorem ren_inj {t x y : Nat} (ht : t < 256) (hx : x < 65536) (hy : y < 65536) (hx2 : x % 257 = 0) (hy2 : y % 257 = 0) (h : ren t x = ren t y) : x = y := by unfold ren at h; omega
/-- The samples when the pixels below k are named anew. -/
def renC (t : Nat) (c : Nat → Nat) (k j : Nat) : Nat := if j % 4 = 0 ∧ j < 4 * k ∧ c (j + 3) = 65535 then ren t (c j) else c j
theorem renC_lt {t : Nat} {c : Nat → Nat} (hc : ∀ i, c i < 65536) (k j : Nat) : renC t c k j < 65536 := by unfold renC; split; exact ren_lt _ _; exact hc j
theorem renC_succ (t : Nat) (c : Nat → Nat) (k j : Nat) : renC t c (k + 1) j = if j = 4 * k ∧ c (4 * k + 3) = 65535 then ren t (c (4 * k)) else renC t c k j := by
  by_cases e : j = 4 * k
  · subst e
    simp only [renC, true_and]
    rw [show 4 * k % 4 = 0 by omega]
    by_cases h : c (4 * k + 3) = 65535
    · rw [if_pos ⟨rfl, by omega, h⟩, if_pos h]
    · rw [if_neg (fun h1 => h h1.2.2), if_neg h, if_neg (fun h1 => h h1.2.2)]
  · rw [if_neg (fun h => e h.1)]
    simp only [renC]
    by_cases h : j % 4 = 0 ∧ j < 4 * k ∧ c (j + 3) = 65535
    · rw [if_pos h, if_pos ⟨h.1, by omega, h.2.2⟩]
    · rw [if_neg h, if_neg (fun h1 => h ⟨h1.1, by omega, h1.2.2⟩)]
theorem renC_zero (t : Nat) (c : Nat → Nat) (j : Nat) : renC t c 0 j = c j := by unfold renC; rw [if_neg (by omega)]
def renP (t : Nat) (p : P4) : P4 := if p.2.2.2 = 65535 then (ren t p.1, p.2.1, p.2.2.1, p.2.2.2) else p
theorem renP_yes {t : Nat} {c : Nat → Nat} {i : Nat} (h : c (4 * i + 3) = 65535) : renP t (p4 c i) = (ren t (c (4 * i)), c (4 * i + 1), c (4 * i + 2), c (4 * i + 3)) :=
  (if_pos (c := (p4 c i).2.2.2 = 65535) h : renP t (p4 c i) = _)
theorem renP_no {t : Nat} {c : Nat → Nat} {i : Nat} (h : ¬c (4 * i + 3) = 65535) : renP t (p4 c i) = (c (4 * i), c (4 * i + 1), c (4 * i + 2), c (4 * i + 3)) :=
  (if_neg (c := (p4 c i).2.2.2 = 65535) h : renP t (p4 c i) = _)
theorem renC_p4 {t : Nat} {c : Nat → Nat} {N i : Nat} (hi : i < N) : p4 (renC t c N) i = renP t (p4 c i) := by
  have h1 : renC t c N (4 * i + 1) = c (4 * i + 1) := by unfold renC; rw [if_neg (by omega)]
  have h2 : renC t c N (4 * i + 2) = c (4 * i + 2) := by unfold renC; rw [if_neg (by omega)]
  have h3 : renC t c N (4 * i + 3) = c (4 * i + 3) := by unfold renC; rw [if_neg (by omega)]
  by_cases h : c (4 * i + 3) = 65535
  · have h0 : renC t c N (4 * i) = ren t (c (4 * i)) := by unfold renC; rw [if_pos ⟨by omega, by omega, h⟩]
    rw [renP_yes h]
    simp only [p4, h0, h1, h2, h3]
  · have h0 : renC t c N (4 * i) = c (4 * i) := by unfold renC; rw [if_neg (fun h1 => h h1.2.2)]
    rw [renP_no h]
    simp only [p4, h0, h1, h2, h3]
theorem ren_injOn {t : Nat} {c : Nat → Nat} {N : Nat} (ht : t < 256) (hc : ∀ i, c i < 65536) (h257 : ∀ j, j < 4 * N → c j % 257 = 0) : InjOn (renP t) (ll c N) := by
  intro p hp q hq h
  obtain ⟨i, hi, rfl⟩ := List.mem_map.1 hp
  obtain ⟨k, hk, rfl⟩ := List.mem_map.1 hq
  have hi' : i < N := by simpa using hi
  have hk' : k < N := by simpa using hk
  have a1 := h257 (4 * i) (by omega)
  have a2 := h257 (4 * k) (by omega)
  have b1 := hc (4 * i)
  have b2 := hc (4 * k)
  by_cases e1 : c (4 * i + 3) = 65535
  · by_cases e2 : c (4 * k + 3) = 65535
    · rw [renP_yes e1, renP_yes e2] at h
      simp only [p4, Prod.mk.injEq] at h ⊢
      exact ⟨ren_inj ht b1 b2 a1 a2 h.1, h.2⟩
    · rw [renP_yes e1, renP_no e2] at h
      simp only [Prod.mk.injEq] at h
      omega
  · by_cases e2 : c (4 * k + 3) = 65535
    · rw [renP_no e1, renP_yes e2] at h
      simp only [Prod.mk.injEq] at h
      omega
    · rw [renP_no e1, renP_no e2] at h
      exact h
theorem order_pl {t : Nat} {c : Nat → Nat} {N : Nat} (ht : t < 256) (hc : ∀ i, c i < 65536) (h257 : ∀ j, j < 4 * N → c j % 257 = 0) : pl (renC t c N) N = pl c N :=
  pl_map (fun i hi => renC_p4 hi) (ren_injOn ht hc h257)
theorem order_U {t : Nat} {c : Nat → Nat} {N : Nat} (ht : t < 256) (hc : ∀ i, c i < 65536) (h257 : ∀ j, j < 4 * N → c j % 257 = 0) : U (renC t c N) N = (U c N).map (renP t) :=
  U_map (fun i hi => renC_p4 hi) (ren_injOn ht hc h257) (Nat.le_refl _)
theorem renP_zero {t : Nat} {p : P4} : renP t p = (0, 0, 0, 0) ↔ p = (0, 0, 0, 0) := by
  unfold renP
  split
  · rename_i h
    obtain ⟨a, b, c, d⟩ := p
    simp only [Prod.mk.injEq] at h ⊢
    omega
  · exact Iff.rfl
theorem clear_map (t : Nat) (L : List P4) : clearIx (L.map (renP t)) = clearIx L := by
  have hm : ((0, 0, 0, 0) : P4) ∈ L.map (renP t) ↔ ((0, 0, 0, 0) : P4) ∈ L := by
    rw [List.mem_map]
    constructor
    · rintro ⟨p, hp, e⟩
      rw [renP_zero.1 e] at hp
      exact hp
    · exact fun h => ⟨_, h, renP_zero.2 rfl⟩
  have hi : (L.map (renP t)).idxOf (0, 0, 0, 0) = L.idxOf (0, 0, 0, 0) := by
    clear hm
    induction L with
    | nil => rfl
    | cons x L ih =>
      rw [List.map_cons, List.idxOf_cons, List.idxOf_cons, ih]
      by_cases e : x = (0, 0, 0, 0)
      · rw [renP_zero.2 e, e]
      · rw [show (renP t x == (0, 0, 0, 0)) = false from beq_eq_false_iff_ne.2 (fun h => e (renP_zero.1 h)), show (x == (0, 0, 0, 0)) = false from beq_eq_false_iff_ne.2 e]
  unfold clearIx
  simp only [hm, hi]
theorem order_fits {a b : Int} {t : Nat} {c : Nat → Nat} {N : Nat} (ht : t < 256) (hc : ∀ i, c i < 65536) (h : fitsB a b (4 * N) c 2 = true) : fitsB a b (4 * N) (renC t c N) 2 = true := by
  obtain ⟨hm, hok, h257, hU⟩ := fit_ok hc h
  refine fit_mk (renC_lt hc N) hm (fun i hi => ?_) (fun j hj => ?_) (by rw [order_U ht hc h257, List.length_map]; exact hU)
  · have h1 := okPix_iff.1 (hok i hi)
    have h2 := renC_p4 (t := t) (c := c) hi
    refine okPix_iff.2 ?_
    by_cases e : c (4 * i + 3) = 65535
    · rw [renP_yes e] at h2
      simp only [p4, Prod.mk.injEq] at h2
      exact .inl (h2.2.2.2.trans e)
    · rw [renP_no e] at h2
      simp only [p4, Prod.mk.injEq] at h2
      omega
  · unfold renC
    split
    · exact ren_257 _ _
    · exact h257 j hj
end Go.Proofs.Ytnjlklcggcfcgaa
