/- The reference's reader of GIF's codes: what lies in memory. -/
import Derived.Test.YtioghgnngdcicaaLzRd
namespace Go.Proofs.Ytioghgnngdcicaa
set_option linter.unusedVariables false
open Go.ChangeShapes Go.WideShapes Go.ChangeAt Go.RowKit

/-- A row of bytes that nothing of X touches. -/
def RowV (w : World) (X : List Nat) (v : Value) (l : List Nat) : Prop :=
  ∃ a c, v = .slice (some a) l.length c ∧ l.length ≤ c ∧ c ≤ maxLen ∧ Byt w (some a) l.length (gz l) ∧ a.block ∉ X ∧ a.block < w.heap.size
theorem RowV.chg {w w' : World} {X X' : List Nat} {v : Value} {l : List Nat} (h : RowV w X v l) (hc : Chg X w w') (hm : More X X' w) : RowV w' X' v l := by
  obtain ⟨a, c, he, h1, h2, hb, hx, hl⟩ := h
  refine ⟨a, c, he, h1, h2, hb.chg hc (fun _ a' h => by cases h; exact hx), fun hk => ?_, Nat.lt_of_lt_of_le hl hc.size⟩
  rcases hm _ hk with h | h
  · exact hx h
  · omega
theorem RowV.of_own {w : World} {base : Nat} {v : Value} {l : List Nat} {X : List Nat} (h : w.ownsRow base 5 1 v l.length (cellsB l)) (hl : 0 < l.length) (hX : ∀ k ∈ X, k < base) : RowV w X v l := by
  obtain ⟨g, c, rfl⟩ := own_some h (by omega)
  obtain ⟨A', c', he, q1, q2, q3, q4⟩ := byt_of_row h
  injection he with e1 e2 e3
  subst e1 e3
  exact ⟨_, _, rfl, q1, q2, q4, fun hk => by have := (h.lt g rfl).1; have := hX _ hk; simp only at this; omega, (h.lt g rfl).2⟩
/-- Where the reference stands, in memory. -/
structure Rz (w0 : World) (gm : Nat) (A : Option Addr) (n cap : Nat) (b : Nat → Nat) (cl sz : Nat) (s : Cz) (v10 v12 v13 : Value) (X : List Nat) (w : World) : Prop where
  rf : Rf gm A n cap b s.p false false w
  rows : ∃ vs : List Value, w.ownsRow (gm + 1) 22 1 v10 s.rows.length vs ∧ ∀ (i : Nat) (v : Value) (l : List Nat), vs[i]? = some v → s.rows[i]? = some l → RowV w X v l
  l0 : s.last = none → v12 = .slice none 0 0
  l1 : ∀ l, s.last = some l → RowV w X v12 l
  out : w.ownsRow (gm + 1) 5 1 v13 s.out.length (cellsB s.out)
  ap : ∀ k, v10.ownBlock = some k → v13.ownBlock ≠ some k
  x0 : gm ∈ X
  x1 : ∀ k, v10.ownBlock = some k → k ∈ X
  x2 : ∀ k, v13.ownBlock = some k → k ∈ X
  xl : ∀ k ∈ X, gm ≤ k ∧ k < w.heap.size
  ab : 0 < n → ∀ a, A = some a → a.block < gm
  g0 : w0.heap.size ≤ gm
  bel : Below w0.heap.size w0 w
  good : GoodC n cl sz s
theorem bel_ofX {w0 w w' : World} {X : List Nat} (h : Below w0.heap.size w0 w) (hc : Chg X w w') (hX : ∀ k ∈ X, w0.heap.size ≤ k) : Below w0.heap.size w0 w' := h.trans (hc.below h.size hX)
section
variable {w0 : World} {gm : Nat} {A : Option Addr} {n cap : Nat} {b : Nat → Nat} {cl sz : Nat} {s : Cz} {v10 v12 v13 : Value} {X : List Nat} {w w' : World}
theorem Rz.new (h : Rz w0 gm A n cap b cl sz s v10 v12 v13 X w) (hb : Below w.heap.size w w') : Rz w0 gm A n cap b cl sz s v10 v12 v13 X w' := by
  have hc : Chg X w w' := Chg.of_below hb
  have hc0 : Chg [] w w' := Chg.of_below hb
  obtain ⟨vs, h1, h2⟩ := h.rows
  exact ⟨h.rf.chg hc0 (by simp) (fun _ _ _ => by simp), ⟨vs, own_chg h1 hc0 (by simp), fun i v l hi hl => (h2 i v l hi hl).chg hc (More.refl _ _)⟩, h.l0, fun l hl => (h.l1 l hl).chg hc (More.refl _ _), own_chg h.out hc0 (by simp), h.ap, h.x0, h.x1, h.x2, fun k hk => ⟨(h.xl k hk).1, Nat.lt_of_lt_of_le (h.xl k hk).2 hb.size⟩, h.ab, h.g0, h.bel.trans (hb.mono h.bel.size), h.good⟩
/-- The reader's own block changes. -/
theorem Rz.take (h : Rz w0 gm A n cap b cl sz s v10 v12 v13 X w) {s' : Cz} (hc : Chg [gm] w w') (hr : Rf gm A n cap b s'.p false false w') (e1 : s'.rows = s.rows) (e2 : s'.last = s.last) (e3 : s'.out = s.out) (hg : GoodC n cl sz s') : Rz w0 gm A n cap b cl sz s' v10 v12 v13 X w' := by
  have hcX : Chg X w w' := hc.mono (by simpa using h.x0)
  obtain ⟨vs, h1, h2⟩ := h.rows
  refine ⟨hr, ⟨vs, by rw [e1]; exact own_chg' h1 hc (by simp), fun i v l hi hl => ?_⟩, fun hn => h.l0 (by rw [← e2]; exact hn), fun l hl => (h.l1 l (by rw [← e2]; exact hl)).chg hcX (More.refl _ _), by rw [e3]; exact own_chg' h.out hc (by simp), h.ap, h.x0, h.x1, h.x2, fun k hk => ⟨(h.xl k hk).1, Nat.lt_of_lt_of_le (h.xl k hk).2 hc.size⟩, h.ab, h.g0, bel_ofX h.bel hc (by simpa using h.g0), hg⟩
  rw [e1] at hl
  exact (h2 i v l hi hl).chg hcX (More.refl _ _)
theorem Rz.reset (h : Rz w0 gm A n cap b cl sz s v10 v12 v13 X w) (hp : s.p + s.wd ≤ 8 * n) (hc : Chg [gm] w w') (hr : Rf gm A n cap b (s.p + s.wd) false false w') : Rz w0 gm A n cap b cl sz (s.reset sz) (.slice none 0 0) (.slice none 0 0) v13 X w' := by
  exact ⟨hr, ⟨[], World.ownsRow_nil _ _ _ _, (fun i v l hi => by simp at hi)⟩, fun _ => rfl, (fun l hl => by cases hl), own_chg' h.out hc (by simp), (fun k hk => by cases hk), h.x0, (fun k hk => by cases hk), h.x2, fun k hk => ⟨(h.xl k hk).1, Nat.lt_of_lt_of_le (h.xl k hk).2 hc.size⟩, h.ab, h.g0, bel_ofX h.bel hc (by simpa using h.g0), h.good.reset hp⟩
/-- The values with a row more. -/
theorem Rz.newOut {v13' : Value} {o' : List Nat} (h : Rz w0 gm A n cap b cl sz s v10 v12 v13 X w) (hg : w.grownBy w' v13.ownBlock) (ho : w'.ownsRow (gm + 1) 5 1 v13' o'.length (cellsB o')) (hat : v13'.ownBlock = v13.ownBlock ∨ v13'.ownBlock = some w.heap.size) (h256 : ∀ v ∈ o', v < 256) :
    ∃ X', Rz w0 gm A n cap b cl sz ⟨s.p, s.wd, s.rows, s.last, o'⟩ v10 v12 v13' X' w' ∧ More X X' w ∧ Chg X w w' := by
  have hc : Chg v13.ownBlock.toList w w' := Chg.grown hg (fun r hr => by rw [hr]; simp)
  have hT : ∀ k ∈ v13.ownBlock.toList, v13.ownBlock = some k := fun k hk => by simpa using hk
  have hTg : ∀ k ∈ v13.ownBlock.toList, gm < k := fun k hk => by have := h.out.lt k (hT k hk); omega
  have hcX : Chg X w w' := hc.mono (fun k hk => h.x2 k (hT k hk))
  have hMo : More X (v13'.ownBlock.toList ++ X) w := fun k hk => by
    have h6 : v13'.ownBlock = some k ∨ k ∈ X := by simpa using hk
    rcases h6 with h6 | h6
    · rcases hat with h5 | h5
      · exact .inl (h.x2 k (h5.symm.trans h6))
      · rw [h5] at h6
        injection h6 with h6
        exact .inr (by omega)
    · exact .inl h6
  have hsz := hc.size
  have hgml := (h.xl gm h.x0).2
  obtain ⟨vs, h1, h2⟩ := h.rows
  refine ⟨v13'.ownBlock.toList ++ X, ⟨h.rf.chg hc (fun hm => by have := hTg _ hm; omega) (fun h0 a hA hm => by have := hTg _ hm; have := h.ab h0 a hA; omega), ⟨vs, own_chg h1 hc (fun k hk hm => h.ap k hk (hT k hm)), fun i v l hi hl => (h2 i v l hi hl).chg hcX hMo⟩, h.l0, fun l hl => (h.l1 l hl).chg hcX hMo, ho, fun k hk e => ?_, by simp [h.x0], fun k hk => by simp [h.x1 k hk], fun k hk => by simp [hk], fun k hk => ?_, h.ab, h.g0, bel_ofX h.bel hcX (fun k hk => Nat.le_trans h.g0 (h.xl k hk).1), ⟨h.good.clv, h.good.sz2, h.good.sz8, h.good.wd1, h.good.wd2, h.good.p, h.good.full, h.good.rows, h.good.last, h.good.none, h256⟩⟩, hMo, hcX⟩
  · rcases hat with h5 | h5
    · exact h.ap k hk (h5.symm.trans e)
    · rw [h5] at e
      injection e with e
      have := h1.lt k hk
      omega
  · have h6 : v13'.ownBlock = some k ∨ k ∈ X := by simpa using hk
    rcases h6 with h6 | h6
    · have := ho.lt k h6
      omega
    · have := h.xl k h6
      omega
/-- A row more. -/
theorem Rz.newRow {v10' v : Value} {r : List Nat} (h : Rz w0 gm A n cap b cl sz s v10 v12 v13 X w) {vs : List Value} (hvs : w.ownsRow (gm + 1) 22 1 v10 s.rows.length vs ∧ ∀ (i : Nat) (v : Value) (l : List Nat), vs[i]? = some v → s.rows[i]? = some l → RowV w X v l) (hg : w.grownBy w' v10.ownBlock) (ho : w'.ownsRow (gm + 1) 22 1 v10' (s.rows.length + 1) (vs ++ [v])) (hat : v10'.ownBlock = v10.ownBlock ∨ v10'.ownBlock = some w.heap.size)
    (hv : RowV w X v r) (hgd : GoodC n cl sz ⟨s.p, s.wd, s.rows ++ [r], s.last, s.out⟩) :
    ∃ X', Rz w0 gm A n cap b cl sz ⟨s.p, s.wd, s.rows ++ [r], s.last, s.out⟩ v10' v12 v13 X' w' ∧ More X X' w ∧ Chg X w w' := by
  have hc : Chg v10.ownBlock.toList w w' := Chg.grown hg (fun r hr => by rw [hr]; simp)
  have hT : ∀ k ∈ v10.ownBlock.toList, v10.ownBlock = some k := fun k hk => by simpa using hk
  obtain ⟨h1, h2⟩ := hvs
  have hTg : ∀ k ∈ v10.ownBlock.toList, gm < k := fun k hk => by have := h1.lt k (hT k hk); omega
  have hcX : Chg X w w' := hc.mono (fun k hk => h.x1 k (hT k hk))
  have hMo : More X (v10'.ownBlock.toList ++ X) w := fun k hk => by
    have h6 : v10'.ownBlock = some k ∨ k ∈ X := by simpa using hk
    rcases h6 with h6 | h6
    · rcases hat with h5 | h5
      · exact .inl (h.x1 k (h5.symm.trans h6))
      · rw [h5] at h6
        injection h6 with h6
        exact .inr (by omega)
    · exact .inl h6
  have hsz := hc.size
  have hgml := (h.xl gm h.x0).2
  have hvl : vs.length = s.rows.length := by have := h1.1; omega
  refine ⟨v10'.ownBlock.toList ++ X, ⟨h.rf.chg hc (fun hm => by have := hTg _ hm; omega) (fun h0 a hA hm => by have := hTg _ hm; have := h.ab h0 a hA; omega), ⟨vs ++ [v], own_len (by simp) ho, fun i v' l hi hl => ?_⟩, h.l0, fun l hl => (h.l1 l hl).chg hcX hMo, own_chg h.out hc (fun k hk hm => h.ap k (hT k hm) hk), fun k hk e => ?_, by simp [h.x0], fun k hk => by simp [hk], fun k hk => by simp [h.x2 k hk], fun k hk => ?_, h.ab, h.g0, bel_ofX h.bel hcX (fun k hk => Nat.le_trans h.g0 (h.xl k hk).1), hgd⟩, hMo, hcX⟩
  · by_cases hlt : i < s.rows.length
    · rw [List.getElem?_append_left (by omega)] at hi
      have hl' : (s.rows ++ [r])[i]? = some l := hl
      rw [List.getElem?_append_left hlt] at hl'
      exact (h2 i v' l hi hl').chg hcX hMo
    · rw [List.getElem?_append_right (by omega)] at hi
      have hl' : (s.rows ++ [r])[i]? = some l := hl
      rw [List.getElem?_append_right (by omega)] at hl'
      have h0 : i - vs.length = 0 := by
        have := (List.getElem?_eq_some_iff.1 hi).1
        simp at this
        omega
      rw [h0] at hi
      rw [show i - s.rows.length = 0 by omega] at hl'
      simp at hi hl'
      subst hi hl'
      exact hv.chg hcX hMo
  · rcases hat with h5 | h5
    · exact h.ap k (h5.symm.trans hk) e
    · rw [h5] at hk
      injection hk with hk
      have := h.out.lt k e
      omega
  · have h6 : v10'.ownBlock = some k ∨ k ∈ X := by simpa using hk
    rcases h6 with h6 | h6
    · have := ho.lt k h6
      omega
    · have := h.xl k h6
      omega
end
theorem Rz.fin {w0 : World} {gm : Nat} {A : Option Addr} {n cap : Nat} {b : Nat → Nat} {cl sz : Nat} {s : Cz} {v10 v12 v13 : Value} {X : List Nat} {w : World} (h : Rz w0 gm A n cap b cl sz s v10 v12 v13 X w) {v : Value} {row : List Nat} (hv : RowV w X v row) {wd : Nat} (hg : GoodC n cl sz ⟨s.p, wd, s.rows, some row, s.out⟩) :
    Rz w0 gm A n cap b cl sz ⟨s.p, wd, s.rows, some row, s.out⟩ v10 v v13 X w :=
  ⟨h.rf, h.rows, (fun e => by cases e), (fun l e => by injection e with e; subst e; exact hv), h.out, h.ap, h.x0, h.x1, h.x2, h.xl, h.ab, h.g0, h.bel, hg⟩
theorem newB_of_own {B : Nat} {w : World} {v : Value} {o : List Nat} (h : w.ownsRow B 5 1 v o.length (cellsB o)) : ∃ A cap, v = .slice A o.length cap ∧ NewB B w o.length A cap (gz o) := by
  obtain ⟨A', c', he, q1, q2, q3, q4⟩ := byt_of_row h
  subst he
  refine ⟨A', c', rfl, q1, q2, q3, q4, fun a ha => ?_, fun a ha => ?_, fun a ha => ?_⟩
  · subst ha; exact (h.lt a.block rfl).1
  · subst ha; exact (h.lt a.block rfl).2
  · subst ha
    rcases h.2 with ⟨h0, _⟩ | ⟨g, cap, cur, he, _⟩
    · cases h0
    · cases he; rfl
end Go.Proofs.Ytioghgnngdcicaa
