/- The reference's reader of GIF's codes: the walk. -/
import Derived.Test.YtioghgnngdcicaaLzF
namespace Go.Proofs.Ytioghgnngdcicaa
set_option linter.unusedVariables false
open Go.ChangeShapes Go.WideShapes Go.ChangeAt Go.RowKit

theorem cells8_gz (l : List Nat) : cells8 l.length (gz l) = cellsB l := by
  apply List.ext_getElem?
  intro j
  by_cases h : j < l.length
  · rw [cells8_get _ _ _ h]
    simp [cellsB, gz, h]
  · rw [List.getElem?_eq_none (by simp [cells8]; omega), List.getElem?_eq_none (by rw [cellsB_len]; omega)]
theorem cellsB_one (l : List Nat) : ∀ u ∈ cellsB l, u.oneCell' = true := by
  intro u hu
  obtain ⟨j, _, rfl⟩ := List.mem_map.1 hu
  rfl
theorem own_le2 {w : World} {b b' : Nat} (h : b' ≤ b) {e : TypeId} {size n : Nat} {v : Value} {xs : List Value} (ho : w.ownsRow b e size v n xs) : w.ownsRow b' e size v n xs := by
  obtain ⟨h1, h2⟩ := ho
  refine ⟨h1, ?_⟩
  rcases h2 with h0 | ⟨g, cap, cur, rfl, hB, hr⟩
  · exact .inl h0
  · exact .inr ⟨g, cap, cur, rfl, by omega, hr⟩
theorem row_news {W : World} {a : Addr} {l : List Nat} (h : Byt W (some a) l.length (gz l)) : 0 < l.length → ∃ b off, some a = some ⟨b, off, none⟩ ∧ ∀ j u, (cellsB l)[j]? = some u → W.cell? ⟨b, off + j, none⟩ = some u := fun hn => by
  have := byt_news h hn
  rwa [cells8_gz] at this
/-- A row copied to a row of one's own. -/
theorem app_copy {W : World} {X : List Nat} {v : Value} {l : List Nat} (h : RowV W X v l) (hl : l.length ≤ 5000) :
    ∃ v' W1, (Builtin.append_ #[22, 22] 22 #[.slice none 0 0, v]).run Try.prog W = .ok v' W1 ∧ W1.ownsRow W.heap.size 5 1 v' l.length (cellsB l) ∧ Below W.heap.size W W1 := by
  obtain ⟨i0, hi, hz0, hz1, hz2⟩ := info_parts info8
  obtain ⟨a, c, rfl, q1, q2, hb, hx, hlt⟩ := h
  obtain ⟨v', W1, hr, ho, hg, hat⟩ := run_app (P := Try.prog) (w := W) W.heap.size 22 22 5 i0 (.int .u8 0) 1 1 Try.underlying22 hi hz0 hz1 hz2 rfl (by omega) (.slice none 0 0) 0 [] (World.ownsRow_nil _ _ _ _)
    (some a) l.length c (cellsB l) (by simp) (by rw [cellsB_len]; omega) (row_news hb) (cellsB_one l) (by unfold maxLen; omega) (by omega) (Nat.le_refl _)
  rw [Nat.zero_add, List.nil_append] at ho
  refine ⟨v', W1, hr, ho, ⟨hg.os, hg.tape, hg.output, hg.size, fun k hk => hg.block k hk (fun e => by cases e)⟩⟩
/-- A byte behind a row of one's own. -/
theorem app_byte {W : World} {base : Nat} {v : Value} {l : List Nat} {x B : Nat} (h : W.ownsRow base 5 1 v l.length (cellsB l)) (hx : W.cell? ⟨B, 0, none⟩ = some (.int .u8 (x : Nat))) (hl : l.length ≤ 5000) (hb : base ≤ W.heap.size) :
    ∃ v' W1, (Builtin.append_ #[22, 22] 22 #[v, .slice (some ⟨B, 0, none⟩) 1 1]).run Try.prog W = .ok v' W1 ∧ W1.ownsRow base 5 1 v' (l ++ [x]).length (cellsB (l ++ [x])) ∧ W.grownBy W1 v.ownBlock := by
  obtain ⟨i0, hi, hz0, hz1, hz2⟩ := info_parts info8
  obtain ⟨v', W1, hr, ho, hg, hat⟩ := run_app (P := Try.prog) (w := W) base 22 22 5 i0 (.int .u8 0) 1 1 Try.underlying22 hi hz0 hz1 hz2 rfl (by omega) v l.length (cellsB l) h
    (some ⟨B, 0, none⟩) 1 1 [.int .u8 (x : Nat)] (by simp) rfl (fun _ => ⟨B, 0, rfl, fun j u hj => by
      match j, hj with
      | 0, hj => simp at hj; subst hj; exact hx
      | j + 1, hj => simp at hj⟩) (by intro u hu; simp at hu; subst hu; rfl) (by unfold maxLen; omega) (by omega) hb
  rw [← cellsB_snoc] at ho
  exact ⟨v', W1, hr, own_len (by simp) ho, hg⟩
/-- 'append(append(nil, row...), x)', the copy first. -/
theorem app_two {W : World} {X : List Nat} {v : Value} {l : List Nat} {x : Nat} (h : RowV W X v l) (hl : l.length ≤ 5000) :
    ∃ v1 W1 v2 W2, (Builtin.append_ #[22, 22] 22 #[.slice none 0 0, v]).run Try.prog W = .ok v1 W1 ∧ Below W.heap.size W W1 ∧
      (Builtin.append_ #[22, 22] 22 #[v1, .slice (some ⟨W1.heap.size, 0, none⟩) 1 1]).run Try.prog (W1.alloc (.cells #[.int .u8 (x : Nat)] 5)) = .ok v2 W2 ∧
      W2.ownsRow W.heap.size 5 1 v2 (l ++ [x]).length (cellsB (l ++ [x])) ∧ Below W.heap.size W W2 := by
  obtain ⟨v1, W1, r1, o1, b1⟩ := app_copy h hl
  obtain ⟨v2, W2, r2, o2, g2⟩ := app_byte (x := x) (o1.alloc (.cells #[.int .u8 (x : Nat)] 5)) (hp_cell (j := 0) (hp_new0 W1 _) rfl) hl (by have := b1.size; simp; omega)
  exact ⟨v1, W1, v2, W2, r1, b1, r2, o2, bel_grown (b1.alloc b1.size _) g2 (fun r hr => (o1.lt r hr).1) (by have := b1.size; simp; omega)⟩
/-- The same, the byte's own block first. -/
theorem app_two' {W : World} {X : List Nat} {v : Value} {l : List Nat} {x : Nat} (h : RowV W X v l) (hX : ∀ k ∈ X, k < W.heap.size) (hl : l.length ≤ 5000) :
    ∃ v1 W1 v2 W2, (Builtin.append_ #[22, 22] 22 #[.slice none 0 0, v]).run Try.prog (W.alloc (.cells #[.int .u8 (x : Nat)] 5)).drew = .ok v1 W1 ∧ Below W.heap.size W W1 ∧
      (Builtin.append_ #[22, 22] 22 #[v1, .slice (some ⟨W.heap.size, 0, none⟩) 1 1]).run Try.prog W1 = .ok v2 W2 ∧
      W2.ownsRow W.heap.size 5 1 v2 (l ++ [x]).length (cellsB (l ++ [x])) ∧ Below W.heap.size W W2 := by
  have hbA : Below W.heap.size W (W.alloc (.cells #[.int .u8 (x : Nat)] 5)).drew := ((Below.refl _ W).alloc (Nat.le_refl _) _).drew
  have h' := h.chg (Chg.of_below hbA) (More.refl X W)
  obtain ⟨v1, W1, r1, o1, b1⟩ := app_copy h' hl
  have hsz : (W.alloc (.cells #[.int .u8 (x : Nat)] 5)).drew.heap.size = W.heap.size + 1 := by simp
  rw [hsz] at o1 b1
  have hx1 : W1.cell? ⟨W.heap.size, 0, none⟩ = some (.int .u8 (x : Nat)) := (b1.cell (p := ⟨W.heap.size, 0, none⟩) (by show W.heap.size < W.heap.size + 1; omega)).trans (hp_cell (W := W.alloc (.cells #[.int .u8 (x : Nat)] 5)) (j := 0) (hp_new0 W _) rfl)
  have hs1 := b1.size
  rw [hsz] at hs1
  obtain ⟨v2, W2, r2, o2, g2⟩ := app_byte (x := x) o1 hx1 hl hs1
  have hB1 : Below W.heap.size W W1 := hbA.trans (b1.mono (by omega))
  exact ⟨v1, W1, v2, W2, r1, hB1, r2, own_le2 (by omega) o2, bel_grown hB1 g2 (fun r hr => by have := (o1.lt r hr).1; omega) (by omega)⟩
end Go.Proofs.Ytioghgnngdcicaa
