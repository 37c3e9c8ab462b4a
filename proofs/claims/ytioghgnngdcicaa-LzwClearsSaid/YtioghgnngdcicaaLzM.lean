/- A reader of GIF's codes in memory. -/
import Derived.Test.YtioghgnngdcicaaLzRow
import Derived.Test.YtioghgnngdcicaaBitP
namespace Go.Proofs.Ytioghgnngdcicaa
set_option linter.unusedVariables false
open Go.ChangeShapes Go.WideShapes Go.ChangeAt Go.RowKit

def gz (l : List Nat) (i : Nat) : Nat := (l[i]?).getD 0
theorem gz_lt {l : List Nat} (h : ∀ x ∈ l, x < 256) (j : Nat) : gz l j < 256 := getD_lt h j
/-- Bytes that wait to be put out. -/
def Wts (g : Nat) (vt vo vw : Value) (wt : List Nat) (w : World) : Prop :=
  ∃ A c, vw = .slice A wt.length c ∧ wt.length ≤ c ∧ c ≤ maxLen ∧ (A = none → c = 0) ∧ Byt w A wt.length (gz wt) ∧ ∀ a, A = some a → g < a.block ∧ a.block < w.heap.size ∧ vt.ownBlock ≠ some a.block ∧ vo.ownBlock ≠ some a.block
/-- A reader's rows in memory; S: its blocks. -/
structure LzMem (g gl : Nat) (A : Option Addr) (n cap : Nat) (b : Nat → Nat) (p : Nat) (vt vw vo : Value) (t : List (Nat × Nat)) (wt o : List Nat) (S : List Nat) (w : World) : Prop where
  rd : Rd 76 gl A n cap b p (.slice none 0 0) 0 w
  tab : w.ownsRow (g + 1) 81 2 vt t.length (tabCells t)
  out : w.ownsRow (g + 1) 5 1 vo o.length (cellsB o)
  wts : Wts g vt vo vw wt w
  ap : ∀ k, vt.ownBlock = some k → vo.ownBlock ≠ some k
  glg : gl < g
  ab : ∀ a, A = some a → a.block < g
  gs : g < w.heap.size
  s1 : g ∈ S
  s2 : gl ∈ S
  s3 : ∀ k, vt.ownBlock = some k → k ∈ S
  s4 : ∀ k, vo.ownBlock = some k → k ∈ S
  sl : ∀ k ∈ S, k < w.heap.size
/-- What S may become. -/
def More (S S' : List Nat) (w : World) : Prop := ∀ k ∈ S', k ∈ S ∨ w.heap.size ≤ k
theorem More.refl (S : List Nat) (w : World) : More S S w := fun _ h => .inl h
theorem More.trans {S S' S'' : List Nat} {w w' : World} (h : More S S' w) (k : More S' S'' w') (hs : w.heap.size ≤ w'.heap.size) : More S S'' w := fun x hx => by
  rcases k x hx with h1 | h1
  · exact h x h1
  · exact .inr (by omega)
section
variable {g gl : Nat} {A : Option Addr} {n cap : Nat} {b : Nat → Nat} {p : Nat} {vt vw vo : Value} {t : List (Nat × Nat)} {wt o : List Nat} {S : List Nat} {w w' : World}
theorem Wts.chg {T : List Nat} (h : Wts g vt vo vw wt w) (hc : Chg T w w') (hT : ∀ k ∈ T, k ≤ g ∨ w.heap.size ≤ k ∨ vt.ownBlock = some k ∨ vo.ownBlock = some k) : Wts g vt vo vw wt w' := by
  obtain ⟨A, c, he, h1, h2, hz, hb, ha⟩ := h
  refine ⟨A, c, he, h1, h2, hz, hb.chg hc (fun _ a hA hm => ?_), fun a hA => ?_⟩
  · obtain ⟨q1, q2, q3, q4⟩ := ha a hA
    rcases hT _ hm with h | h | h | h
    · omega
    · omega
    · exact q3 h
    · exact q4 h
  · obtain ⟨q1, q2, q3, q4⟩ := ha a hA
    exact ⟨q1, Nat.lt_of_lt_of_le q2 hc.size, q3, q4⟩
theorem own_chg' {base size m : Nat} {e : TypeId} {v : Value} {xs : List Value} (h : w.ownsRow base e size v m xs) {T : List Nat} (hc : Chg T w w') (hT : ∀ k ∈ T, k < base ∨ w.heap.size ≤ k) : w'.ownsRow base e size v m xs :=
  own_chg h hc (fun k hk hm => by have h1 := h.lt k hk; rcases hT k hm with h2 | h2 <;> omega)
/-- What changes the reader's own block, or blocks that are new, leaves all else. -/
theorem LzMem.setG {T : List Nat} (h : LzMem g gl A n cap b p vt vw vo t wt o S w) (hc : Chg T w w') (hT : ∀ k ∈ T, k = g ∨ w.heap.size ≤ k) : LzMem g gl A n cap b p vt vw vo t wt o S w' := by
  have hgs := h.gs
  have hgl := h.glg
  refine ⟨h.rd.chg hc (fun hm => by rcases hT _ hm with h1 | h1 <;> omega) (fun _ a hA hm => ?_), own_chg' h.tab hc (fun k hk => ?_), own_chg' h.out hc (fun k hk => ?_), h.wts.chg hc (fun k hk => ?_), h.ap, h.glg, h.ab, Nat.lt_of_lt_of_le h.gs hc.size, h.s1, h.s2, h.s3, h.s4, fun k hk => Nat.lt_of_lt_of_le (h.sl k hk) hc.size⟩
  · have := h.ab a hA
    rcases hT _ hm with h1 | h1 <;> omega
  · rcases hT k hk with h1 | h1 <;> omega
  · rcases hT k hk with h1 | h1 <;> omega
  · rcases hT k hk with h1 | h1 <;> omega
theorem LzMem.below (h : LzMem g gl A n cap b p vt vw vo t wt o S w) (hb : Below w.heap.size w w') : LzMem g gl A n cap b p vt vw vo t wt o S w' := h.setG (T := []) (Chg.of_below hb) (by simp)
theorem LzMem.drewN (h : LzMem g gl A n cap b p vt vw vo t wt o S w) (k : Nat) : LzMem g gl A n cap b p vt vw vo t wt o S (w.drewN k) := h.setG (T := []) ((Chg.refl [] w).drewN k) (by simp)
theorem LzMem.take {q : Nat} (h : LzMem g gl A n cap b p vt vw vo t wt o S w) (hc : Chg [gl] w w') (hr : Rd 76 gl A n cap b q (.slice none 0 0) 0 w') : LzMem g gl A n cap b q vt vw vo t wt o S w' := by
  have hgl := h.glg
  exact ⟨hr, own_chg' h.tab hc (by simp; omega), own_chg' h.out hc (by simp; omega), h.wts.chg hc (by simp; omega), h.ap, h.glg, h.ab, Nat.lt_of_lt_of_le h.gs hc.size, h.s1, h.s2, h.s3, h.s4, fun k hk => Nat.lt_of_lt_of_le (h.sl k hk) hc.size⟩
theorem LzMem.newWts {vw' : Value} {wt' : List Nat} (h : LzMem g gl A n cap b p vt vw vo t wt o S w) (hw : Wts g vt vo vw' wt' w) : LzMem g gl A n cap b p vt vw' vo t wt' o S w := ⟨h.rd, h.tab, h.out, hw, h.ap, h.glg, h.ab, h.gs, h.s1, h.s2, h.s3, h.s4, h.sl⟩
theorem LzMem.nilTab (h : LzMem g gl A n cap b p vt vw vo t wt o S w) : LzMem g gl A n cap b p (.slice none 0 0) vw vo [] wt o S w := by
  obtain ⟨Aw, c, he, h1, h2, hz, hb, ha⟩ := h.wts
  exact ⟨h.rd, World.ownsRow_nil _ _ _ _, h.out, ⟨Aw, c, he, h1, h2, hz, hb, fun a hA => by obtain ⟨q1, q2, q3, q4⟩ := ha a hA; exact ⟨q1, q2, (fun e => by cases e), q4⟩⟩, (fun k hk => by cases hk), h.glg, h.ab, h.gs, h.s1, h.s2, (fun k hk => by cases hk), h.s4, h.sl⟩
theorem LzMem.nilOut (h : LzMem g gl A n cap b p vt vw vo t wt o S w) : LzMem g gl A n cap b p vt vw (.slice none 0 0) t wt [] S w := by
  obtain ⟨Aw, c, he, h1, h2, hz, hb, ha⟩ := h.wts
  exact ⟨h.rd, h.tab, World.ownsRow_nil _ _ _ _, ⟨Aw, c, he, h1, h2, hz, hb, fun a hA => by obtain ⟨q1, q2, q3, q4⟩ := ha a hA; exact ⟨q1, q2, q3, (fun e => by cases e)⟩⟩, (fun k hk e => by cases e), h.glg, h.ab, h.gs, h.s1, h.s2, h.s3, (fun k hk => by cases hk), h.sl⟩
/-- A row that was appended to. -/
theorem LzMem.newOut {vo' : Value} {o' : List Nat} (h : LzMem g gl A n cap b p vt vw vo t wt o S w) (hg : w.grownBy w' vo.ownBlock) (ho : w'.ownsRow (g + 1) 5 1 vo' o'.length (cellsB o')) (hat : vo'.ownBlock = vo.ownBlock ∨ vo'.ownBlock = some w.heap.size) :
    ∃ S', LzMem g gl A n cap b p vt vw vo' t wt o' S' w' ∧ More S S' w ∧ Chg S w w' := by
  have hgs := h.gs
  have hgl := h.glg
  have hc : Chg vo.ownBlock.toList w w' := Chg.grown hg (fun r hr => by rw [hr]; simp)
  have hT : ∀ k ∈ vo.ownBlock.toList, vo.ownBlock = some k := fun k hk => by simpa using hk
  have hTg : ∀ k ∈ vo.ownBlock.toList, g < k := fun k hk => by have := h.out.lt k (hT k hk); omega
  have hsz := hc.size
  obtain ⟨Aw, c, he, h1, h2, hz, hb, ha⟩ := h.wts.chg hc (fun k hk => .inr (.inr (.inr (hT k hk))))
  obtain ⟨Aw0, c0, he0, _, _, _, _, ha0⟩ := h.wts
  refine ⟨vo'.ownBlock.toList ++ S, ⟨h.rd.chg hc (fun hm => by have := hTg _ hm; omega) (fun _ a hA hm => by have := hTg _ hm; have := h.ab a hA; omega), own_chg h.tab hc (fun k hk hm => h.ap k hk (hT k hm)), ho, ⟨Aw, c, he, h1, h2, hz, hb, fun a hA => ?_⟩, fun k hk e => ?_, h.glg, h.ab, by omega, by simp [h.s1], by simp [h.s2], fun k hk => by simp [h.s3 k hk], fun k hk => by simp [hk], fun k hk => ?_⟩, fun k hk => ?_, hc.mono (fun k hk => h.s4 k (hT k hk))⟩
  · obtain ⟨q1, q2, q3, q4⟩ := ha a hA
    refine ⟨q1, q2, q3, fun e => ?_⟩
    rcases hat with h5 | h5
    · exact q4 (h5.symm.trans e)
    · rw [h5] at e
      injection e with e
      rw [he] at he0
      injection he0 with e1 e2 e3
      subst e1
      have := (ha0 a hA).2.1
      omega
  · rcases hat with h5 | h5
    · exact h.ap k hk (h5.symm.trans e)
    · rw [h5] at e
      injection e with e
      have := h.tab.lt k hk
      omega
  · have h6 : vo'.ownBlock = some k ∨ k ∈ S := by simpa using hk
    rcases h6 with h6 | h6
    · exact (ho.lt k h6).2
    · have := h.sl k h6
      omega
  · have h6 : vo'.ownBlock = some k ∨ k ∈ S := by simpa using hk
    rcases h6 with h6 | h6
    · rcases hat with h5 | h5
      · exact .inl (h.s4 k (h5.symm.trans h6))
      · rw [h5] at h6
        injection h6 with h6
        exact .inr (by omega)
    · exact .inl h6
theorem LzMem.newTab {vt' : Value} {t' : List (Nat × Nat)} (h : LzMem g gl A n cap b p vt vw vo t wt o S w) (hg : w.grownBy w' vt.ownBlock) (ho : w'.ownsRow (g + 1) 81 2 vt' t'.length (tabCells t')) (hat : vt'.ownBlock = vt.ownBlock ∨ vt'.ownBlock = some w.heap.size) :
    ∃ S', LzMem g gl A n cap b p vt' vw vo t' wt o S' w' ∧ More S S' w ∧ Chg S w w' := by
  have hgs := h.gs
  have hgl := h.glg
  have hc : Chg vt.ownBlock.toList w w' := Chg.grown hg (fun r hr => by rw [hr]; simp)
  have hT : ∀ k ∈ vt.ownBlock.toList, vt.ownBlock = some k := fun k hk => by simpa using hk
  have hTg : ∀ k ∈ vt.ownBlock.toList, g < k := fun k hk => by have := h.tab.lt k (hT k hk); omega
  have hsz := hc.size
  obtain ⟨Aw, c, he, h1, h2, hz, hb, ha⟩ := h.wts.chg hc (fun k hk => .inr (.inr (.inl (hT k hk))))
  obtain ⟨Aw0, c0, he0, _, _, _, _, ha0⟩ := h.wts
  refine ⟨vt'.ownBlock.toList ++ S, ⟨h.rd.chg hc (fun hm => by have := hTg _ hm; omega) (fun _ a hA hm => by have := hTg _ hm; have := h.ab a hA; omega), ho, own_chg h.out hc (fun k hk hm => h.ap k (hT k hm) hk), ⟨Aw, c, he, h1, h2, hz, hb, fun a hA => ?_⟩, fun k hk e => ?_, h.glg, h.ab, by omega, by simp [h.s1], by simp [h.s2], fun k hk => by simp [hk], fun k hk => by simp [h.s4 k hk], fun k hk => ?_⟩, fun k hk => ?_, hc.mono (fun k hk => h.s3 k (hT k hk))⟩
  · obtain ⟨q1, q2, q3, q4⟩ := ha a hA
    refine ⟨q1, q2, fun e => ?_, q4⟩
    rcases hat with h5 | h5
    · exact q3 (h5.symm.trans e)
    · rw [h5] at e
      injection e with e
      rw [he] at he0
      injection he0 with e1 e2 e3
      subst e1
      have := (ha0 a hA).2.1
      omega
  · rcases hat with h5 | h5
    · exact h.ap k (h5.symm.trans hk) e
    · rw [h5] at hk
      injection hk with hk
      have := h.out.lt k e
      omega
  · have h6 : vt'.ownBlock = some k ∨ k ∈ S := by simpa using hk
    rcases h6 with h6 | h6
    · exact (ho.lt k h6).2
    · have := h.sl k h6
      omega
  · have h6 : vt'.ownBlock = some k ∨ k ∈ S := by simpa using hk
    rcases h6 with h6 | h6
    · rcases hat with h5 | h5
      · exact .inl (h.s3 k (h5.symm.trans h6))
      · rw [h5] at h6
        injection h6 with h6
        exact .inr (by omega)
    · exact .inl h6
end
end Go.Proofs.Ytioghgnngdcicaa
