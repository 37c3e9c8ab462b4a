/- The picture of what was seen, in memory. -/
import Derived.Test.YtcnijaakcjkekaaOm
import Derived.Laws.MakeOwn
namespace Go.Proofs.Ytcnijaakcjkekaa
set_option linter.unusedVariables false
open Go.RowKit

/-- Block S holds 1 for what V says, 0 else; of what lay in w3 nothing but block S has changed. -/
structure Se (S a b : Nat) (w3 : World) (V : Nat → Nat → Prop) (wr : World) : Prop where
  grown : w3.grownBy wr (some S)
  hS : S < w3.heap.size
  yes : ∀ px py, px < a → py < b → V px py → wr.cell? ⟨S, py * a + px, none⟩ = some (.int .i64 1)
  no : ∀ px py, px < a → py < b → ¬ V px py → wr.cell? ⟨S, py * a + px, none⟩ = some (.int .i64 0)
  frz : ∀ j, wr.frozen? ⟨S, j, none⟩ = false
structure St (S P a b : Nat) (w3 : World) (p : P6) (V : Nat → Nat → Prop) (wr : World) : Prop where
  se : Se S a b w3 V wr
  hP : w3.heap.size ≤ P
  c0 : wr.cell? ⟨P, 0, none⟩ = some (.int .i64 p.x)
  c1 : wr.cell? ⟨P, 1, none⟩ = some (.int .i64 p.y)
  c2 : wr.cell? ⟨P, 2, none⟩ = some (.int .i64 p.dx)
  c3 : wr.cell? ⟨P, 3, none⟩ = some (.int .i64 p.dy)
  c4 : wr.cell? ⟨P, 4, none⟩ = some (.int .i64 p.w)
  c5 : wr.cell? ⟨P, 5, none⟩ = some (.int .i64 p.h)
section
variable {S P a b : Nat} {w3 wr : World} {p : P6} {V V' : Nat → Nat → Prop}
theorem Se.congr (h : Se S a b w3 V wr) (e : ∀ px py, px < a → py < b → (V' px py ↔ V px py)) : Se S a b w3 V' wr :=
  ⟨h.grown, h.hS, fun px py hx hy hv => h.yes px py hx hy ((e px py hx hy).1 hv), fun px py hx hy hv => h.no px py hx hy (fun k => hv ((e px py hx hy).2 k)), h.frz⟩
theorem Se.drewN (h : Se S a b w3 V wr) (n : Nat) : Se S a b w3 V (wr.drewN n) :=
  ⟨⟨h.grown.os, h.grown.tape, h.grown.output, h.grown.size, h.grown.block⟩, h.hS, h.yes, h.no, h.frz⟩
theorem Se.alloc (h : Se S a b w3 V wr) (o : Obj) : Se S a b w3 V (wr.alloc o) := by
  have hlt : S < wr.heap.size := Nat.lt_of_lt_of_le h.hS h.grown.size
  have hb := (Below.refl wr.heap.size wr).alloc (Nat.le_refl _) o
  refine ⟨⟨h.grown.os, h.grown.tape, h.grown.output, Nat.le_trans h.grown.size (by simp), fun k hk hne => (Below.heap_alloc wr o k (Nat.lt_of_lt_of_le hk h.grown.size)).trans (h.grown.block k hk hne)⟩, h.hS,
    fun px py hx hy hv => (hb.cell (p := ⟨S, py * a + px, none⟩) hlt).trans (h.yes px py hx hy hv), fun px py hx hy hv => (hb.cell (p := ⟨S, py * a + px, none⟩) hlt).trans (h.no px py hx hy hv), fun j => (hb.frozen (p := ⟨S, j, none⟩) hlt).trans (h.frz j)⟩
theorem place_inj {a px py qx qy : Nat} (hx : px < a) (hq : qx < a) (h : py * a + px = qy * a + qx) : px = qx ∧ py = qy := by
  have h1 : (py * a + px) / a = py := by rw [Nat.mul_comm, Nat.mul_add_div (by omega), Nat.div_eq_of_lt hx]; omega
  have h2 : (qy * a + qx) / a = qy := by rw [Nat.mul_comm, Nat.mul_add_div (by omega), Nat.div_eq_of_lt hq]; omega
  have h3 : py = qy := by rw [← h1, ← h2, h]
  subst h3
  exact ⟨by omega, rfl⟩
theorem place_lt {a b px py : Nat} (hx : px < a) (hy : py < b) : py * a + px < a * b := by
  have h1 : (py + 1) * a ≤ b * a := Nat.mul_le_mul_right a hy
  rw [Nat.add_mul, Nat.one_mul] at h1
  rw [Nat.mul_comm a b]
  omega
theorem Se.store (h : Se S a b w3 V wr) {qx qy : Nat} (hx : qx < a) (hy : qy < b) (e : ∀ px py, V' px py ↔ (V px py ∨ (px = qx ∧ py = qy))) :
    Se S a b w3 V' (wr.setCell ⟨S, qy * a + qx, none⟩ (.int .i64 1)) := by
  have hold : ∃ v, wr.cell? ⟨S, qy * a + qx, none⟩ = some v := by
    by_cases hv : V qx qy
    · exact ⟨_, h.yes qx qy hx hy hv⟩
    · exact ⟨_, h.no qx qy hx hy hv⟩
  obtain ⟨v, hv⟩ := hold
  have hoth : ∀ px py, px < a → py < b → ¬ (px = qx ∧ py = qy) → (wr.setCell ⟨S, qy * a + qx, none⟩ (.int .i64 1)).cell? ⟨S, py * a + px, none⟩ = wr.cell? ⟨S, py * a + px, none⟩ := by
    intro px py hpx hpy hne
    refine World.cell?_setCell_other _ _ _ _ (fun k => ?_)
    injection k with _ k2
    exact hne (place_inj hpx hx (by omega))
  refine ⟨⟨h.grown.os, h.grown.tape, h.grown.output, by simpa [World.setCell] using h.grown.size, fun k hk hne => (Below.heap_setCell wr _ _ k (fun ek => hne (by rw [ek]))).trans (h.grown.block k hk hne)⟩, h.hS, ?_, ?_, ?_⟩
  · intro px py hpx hpy hvv
    by_cases hq : px = qx ∧ py = qy
    · obtain ⟨rfl, rfl⟩ := hq
      exact World.cell?_setCell_same' _ _ _ (by rw [hv]; rfl)
    · rw [hoth px py hpx hpy hq]
      rcases (e px py).1 hvv with h1 | h1
      · exact h.yes px py hpx hpy h1
      · exact absurd h1 hq
  · intro px py hpx hpy hvv
    have hq : ¬ (px = qx ∧ py = qy) := fun k => hvv ((e px py).2 (.inr k))
    rw [hoth px py hpx hpy hq]
    exact h.no px py hpx hpy (fun k => hvv ((e px py).2 (.inl k)))
  · intro j
    rw [World.frozen?_setCell]
    exact h.frz j
theorem St.congr (h : St S P a b w3 p V wr) (e : ∀ px py, px < a → py < b → (V' px py ↔ V px py)) : St S P a b w3 p V' wr := ⟨h.se.congr e, h.hP, h.c0, h.c1, h.c2, h.c3, h.c4, h.c5⟩
theorem St.drewN (h : St S P a b w3 p V wr) (n : Nat) : St S P a b w3 p V (wr.drewN n) := ⟨h.se.drewN n, h.hP, h.c0, h.c1, h.c2, h.c3, h.c4, h.c5⟩
theorem St.store (h : St S P a b w3 p V wr) {qx qy : Nat} (hx : qx < a) (hy : qy < b) (e : ∀ px py, V' px py ↔ (V px py ∨ (px = qx ∧ py = qy))) :
    St S P a b w3 p V' (wr.setCell ⟨S, qy * a + qx, none⟩ (.int .i64 1)) := by
  have hne : ∀ i, (wr.setCell ⟨S, qy * a + qx, none⟩ (.int .i64 1)).cell? ⟨P, i, none⟩ = wr.cell? ⟨P, i, none⟩ := fun i =>
    World.cell?_setCell_other _ _ _ _ (fun k => by
      injection k with k1 _
      have := h.se.hS
      have := h.hP
      omega)
  exact ⟨h.se.store hx hy e, h.hP, (hne 0).trans h.c0, (hne 1).trans h.c1, (hne 2).trans h.c2, (hne 3).trans h.c3, (hne 4).trans h.c4, (hne 5).trans h.c5⟩
theorem St.new (h : Se S a b w3 V wr) : St S wr.heap.size a b w3 p V (wr.alloc (.cells #[.int .i64 p.x, .int .i64 p.y, .int .i64 p.dx, .int .i64 p.dy, .int .i64 p.w, .int .i64 p.h] 32)) := by
  have hc : ∀ i, (wr.alloc (.cells #[.int .i64 p.x, .int .i64 p.y, .int .i64 p.dx, .int .i64 p.dy, .int .i64 p.w, .int .i64 p.h] 32)).cell? ⟨wr.heap.size, i, none⟩ = (#[Value.int .i64 p.x, .int .i64 p.y, .int .i64 p.dx, .int .i64 p.dy, .int .i64 p.w, .int .i64 p.h] : Array Value)[i]? := fun i =>
    cell_of_row _ _ _ _ _ _ (heap_alloc_new wr _)
  exact ⟨h.alloc _, h.grown.size, hc 0, hc 1, hc 2, hc 3, hc 4, hc 5⟩
end
end Go.Proofs.Ytcnijaakcjkekaa
