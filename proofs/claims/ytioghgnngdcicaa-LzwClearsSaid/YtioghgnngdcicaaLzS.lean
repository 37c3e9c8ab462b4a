/- A reader of GIF's codes: one step goes on to what all of it comes to. -/
import Derived.Test.YtioghgnngdcicaaLzN
namespace Go.Proofs.Ytioghgnngdcicaa
set_option linter.unusedVariables false
open Go.ChangeShapes Go.WideShapes Go.ChangeAt Go.RowKit

/-- What the codes come to from where a reader stands. -/
def Gon (b : Nat → Nat) (n cl sz most : Nat) (r : List Nat × Nat) (s : Cz) (wt : List Nat) : Prop :=
  ∃ k, 8 * n - s.p < k ∧ ((most < s.out.length + wt.length ∧ r = ([], 6)) ∨ (s.out.length + wt.length ≤ most ∧ finC b n cl sz most k ⟨s.p, s.wd, s.rows, s.last, s.out ++ wt⟩ = r))
def mz (n : Nat) (s : Cz) (wt : List Nat) (en : Bool) : Nat := (8 * n - s.p) * 5000 + wt.length + (if en = true then 0 else 1)
/-- A reader lies in memory. -/
def LzS (g gl : Nat) (A : Option Addr) (n cap : Nat) (b : Nat → Nat) (most sz cl : Nat) (s : Cz) (wt : List Nat) (en : Bool) (er : Int) (S : List Nat) (w : World) : Prop :=
  (∃ vt vw vo lc t, LzBox g gl most sz s.wd (cl + 2 + s.rows.length) vt lc vw vo en er w ∧ LzMem g gl A n cap b s.p vt vw vo t wt s.out S w ∧ LzPu n cl sz s lc t) ∧ ∀ x ∈ wt, x < 256
def Thrown (e : Ending) (r : List Nat × Nat) : Prop := (StopE e ∧ r = ([], 2)) ∨ (∃ k : Nat, PanE (k : Nat) e ∧ r = ([], k) ∧ 0 < k)
/-- What a step leaves. -/
def OneP (g gl : Nat) (A : Option Addr) (n cap : Nat) (b : Nat → Nat) (most sz cl : Nat) (r : List Nat × Nat) (s : Cz) (wt : List Nat) (S : List Nat) (w : World) (e : Ending) (w' : World) : Prop :=
  ∃ S' s' wt', More S S' w ∧ Chg S w w' ∧ ((e = .returned (.tuple #[]) ∧ ∃ en', LzS g gl A n cap b most sz cl s' wt' en' 0 S' w' ∧ (en' = true → r = (s'.out, 0)) ∧ (en' = false → Gon b n cl sz most r s' wt') ∧
    mz n s' wt' en' < mz n s wt false ∧ s.out.length ≤ s'.out.length ∧ s'.out.length ≤ s.out.length + 1 ∧ s'.out.length ≤ most) ∨ (Thrown e r ∧ LzS g gl A n cap b most sz cl s' wt' false 0 S' w'))
theorem LzS.drewN {g gl : Nat} {A : Option Addr} {n cap : Nat} {b : Nat → Nat} {most sz cl : Nat} {s : Cz} {wt : List Nat} {en : Bool} {er : Int} {S : List Nat} {w : World} (h : LzS g gl A n cap b most sz cl s wt en er S w) (k : Nat) : LzS g gl A n cap b most sz cl s wt en er S (w.drewN k) := by
  obtain ⟨⟨vt, vw, vo, lc, t, hb, hm, hp⟩, h2⟩ := h
  exact ⟨⟨vt, vw, vo, lc, t, hb, hm.drewN k, hp⟩, h2⟩
theorem LzS.below {g gl : Nat} {A : Option Addr} {n cap : Nat} {b : Nat → Nat} {most sz cl : Nat} {s : Cz} {wt : List Nat} {en : Bool} {er : Int} {S : List Nat} {w w' : World} (h : LzS g gl A n cap b most sz cl s wt en er S w) (hb : Below w.heap.size w w') : LzS g gl A n cap b most sz cl s wt en er S w' := by
  obtain ⟨⟨vt, vw, vo, lc, t, hx, hm, hp⟩, h2⟩ := h
  exact ⟨⟨vt, vw, vo, lc, t, hp_below hx hb hm.gs, hm.below hb, hp⟩, h2⟩
section
variable {g gl : Nat} {A : Option Addr} {n cap : Nat} {b : Nat → Nat} {most sz cl : Nat} {s : Cz} {wt : List Nat} {S : List Nat} {w : World} {r : List Nat × Nat}
theorem GoodC.emit (h : GoodC n cl sz s) {x : Nat} (hx : x < 256) : GoodC n cl sz ⟨s.p, s.wd, s.rows, s.last, s.out ++ [x]⟩ :=
  ⟨h.clv, h.sz2, h.sz8, h.wd1, h.wd2, h.p, h.full, h.rows, h.last, h.none, fun v hv => by
    have hv' : v ∈ s.out ++ [x] := hv
    rcases List.mem_append.1 hv' with h1 | h1
    · exact h.out v h1
    · rw [List.mem_singleton.1 h1]; exact hx⟩
theorem takeL_lt12 (p k : Nat) (hk : k ≤ 12) : takeL b p k < 4096 := Nat.lt_of_lt_of_le (takeL_lt b p k) (pow12 hk)
theorem row_le {cl sz : Nat} (h : GoodC n cl sz s) (c : Nat) (hc : c ≠ cl) (hc1 : c ≠ cl + 1) (hb : badC cl s.rows s.last c = false) : 0 < (rowC cl s.rows s.last c).length ∧ (rowC cl s.rows s.last c).length ≤ 4900 ∧ ∀ x ∈ rowC cl s.rows s.last c, x < 256 := by
  have h1 := (rowC_ok h c hc hc1 hb).1
  have h2 := h.full
  have h3 := h1.1
  refine ⟨?_, by have := h1.2.1; omega, h1.2.2⟩
  cases hh : rowC cl s.rows s.last c with
  | nil => exact absurd hh h3
  | cons a q => simp
theorem mz_step {p q l m : Nat} (h1 : p + 3 ≤ q) (h2 : q ≤ 8 * n) (hl : l ≤ 4900) (x : Nat) (hx : x ≤ 1) : (8 * n - q) * 5000 + l + x < (8 * n - p) * 5000 + m + 1 := by
  have h3 : 8 * n - q + 3 ≤ 8 * n - p := by omega
  have h4 := Nat.mul_le_mul_right 5000 h3
  omega
set_option maxHeartbeats 1000000 in
theorem one_any (hbt : ∀ i, b i < 256) (hn : n ≤ 1000000) (hmost : most ≤ 1000000) (hom : s.out.length ≤ most) (hg : Gon b n cl sz most r s wt) (h : LzS g gl A n cap b most sz cl s wt false 0 S w) :
    Calls Try.prog 34 #[.pointer (some ⟨g, 0, none⟩)] w (OneP g gl A n cap b most sz cl r s wt S w) := by
  obtain ⟨⟨vt, vw, vo, lc, t, hb, hm, hp⟩, h256⟩ := h
  have hgd := hp.good
  have hclb := cl_le hgd
  have hsz := hgd.sz8
  have hcl := Lib.hid hgd.clv
  have hwd1 := hgd.wd1
  have hwd2 := hgd.wd2
  have hpp := hgd.p
  obtain ⟨k, hk, hgo⟩ := hg
  cases wt with
  | cons x wr =>
    by_cases ho : s.out.length < most
    · refine (emit_yes g gl A n cap b most sz s.p s.wd _ vt vw vo lc 0 t x wr s.out S hmost ho w hb hm).mono ?_
      rintro e w' ⟨rfl, vw', vo', S', hb', hm', hMo, hC⟩
      refine ⟨S', ⟨s.p, s.wd, s.rows, s.last, s.out ++ [x]⟩, wr, hMo, hC, .inl ⟨rfl, false, ⟨⟨vt, vw', vo', lc, t, hb', hm', ⟨hgd.emit (h256 x (by simp)), hp.tb, hp.l0, hp.l1⟩⟩, fun y hy => h256 y (by simp [hy])⟩, (fun h => by cases h), fun _ => ⟨k, hk, ?_⟩, ?_, by simp, by simp, by simp; omega⟩⟩
      · rcases hgo with ⟨h1, h2⟩ | ⟨h1, h2⟩
        · refine .inl ⟨?_, h2⟩
          simp at h1 ⊢
          omega
        · refine .inr ⟨?_, ?_⟩
          · simp at h1 ⊢
            omega
          · rw [← h2]
            simp
      · simp [mz]
    · refine (emit_no g gl A n cap b most sz s.p s.wd _ vt vw vo lc 0 t (x :: wr) s.out S hmost (by omega) (by simp) w hb hm).mono ?_
      rintro e w' ⟨hPe, m, rfl⟩
      refine ⟨S, s, x :: wr, More.refl _ _, (Chg.refl S w).drewN m, .inr ⟨.inr ⟨6, hPe, ?_, by omega⟩, LzS.drewN ⟨⟨vt, vw, vo, lc, t, hb, hm, hp⟩, h256⟩ m⟩⟩
      rcases hgo with ⟨h1, h2⟩ | ⟨h1, h2⟩
      · exact h2
      · simp at h1
        omega
  | nil =>
    have hfin : finC b n cl sz most k s = r := by
      rcases hgo with ⟨h1, h2⟩ | ⟨h1, h2⟩
      · simp at h1
        omega
      · simpa using h2
    clear hgo
    obtain ⟨k, rfl⟩ : ∃ j, k = j + 1 := ⟨k - 1, by omega⟩
    rw [finC] at hfin
    by_cases he : 8 * n < s.p + s.wd
    · rw [if_pos he] at hfin
      refine (one_end g gl A n cap b most sz s.p s.wd _ vt vw vo lc 0 t s.out S hn hpp he hwd2 w hb hm).mono ?_
      rintro e w' ⟨hSe, m, rfl⟩
      exact ⟨S, s, [], More.refl _ _, (Chg.refl S w).drewN m, .inr ⟨.inl ⟨hSe, hfin.symm⟩, LzS.drewN ⟨⟨vt, vw, vo, lc, t, hb, hm, hp⟩, h256⟩ m⟩⟩
    · rw [if_neg he] at hfin
      have hle : s.p + s.wd ≤ 8 * n := by omega
      obtain ⟨c, hc⟩ : ∃ c, c = takeL b s.p s.wd := ⟨_, rfl⟩
      have hc4 : c < 4096 := by rw [hc]; exact takeL_lt12 _ _ hwd2
      rw [← hc] at hfin
      by_cases e1 : c = cl
      · rw [if_pos e1] at hfin
        refine (one_reset g gl A n cap b hbt most sz cl hcl hsz hclb s.p s.wd _ vt vw vo lc 0 t s.out S hn hpp hle hwd2 c hc e1 w hb hm).mono ?_
        rintro e w' ⟨rfl, vw', hb', hm', hC⟩
        refine ⟨S, s.reset sz, [], More.refl _ _, hC, .inl ⟨rfl, false, ⟨⟨_, vw', vo, _, [], hb', hm', hp.reset hle⟩, by simp⟩, (fun h => by cases h), fun _ => ⟨k, ?_, .inr ⟨?_, ?_⟩⟩, ?_, Nat.le_refl _, Nat.le_succ _, hom⟩⟩
        · show 8 * n - (s.p + s.wd) < k
          omega
        · simpa [Cz.reset] using hom
        · rw [← hfin]
          simp [Cz.reset]
        · exact mz_step (p := s.p) (by show s.p + 3 ≤ s.p + s.wd; omega) hle (by simp) _ (by simp)
      · rw [if_neg e1] at hfin
        by_cases e2 : c = cl + 1
        · rw [if_pos e2] at hfin
          refine (one_fin g gl A n cap b hbt most sz cl hcl hsz hclb s.p s.wd _ vt vw vo lc 0 t s.out S hn hpp hle hwd2 c hc e2 w hb hm).mono ?_
          rintro e w' ⟨rfl, hb', hm', hC⟩
          exact ⟨S, s.on, [], More.refl _ _, hC, .inl ⟨rfl, true, ⟨⟨vt, vw, vo, lc, t, hb', hm', hp.on hle⟩, by simp⟩, fun _ => hfin.symm, fun h => by (cases h), mz_step (p := s.p) (by show s.p + 3 ≤ s.p + s.wd; omega) hle (by simp) _ (by simp), Nat.le_refl _, Nat.le_succ _, hom⟩⟩
        · rw [if_neg e2] at hfin
          by_cases e3 : badC cl s.rows s.last c = true
          · rw [if_pos e3] at hfin
            have e3' := e3
            unfold badC at e3'
            cases hl : s.last with
            | none =>
              rw [hl] at e3'
              simp at e3'
              refine (one_bad1 g gl A n cap b hbt most sz cl hcl hsz hclb s.p s.wd _ vt vw vo lc 0 t s.out S hn hpp hle hwd2 c hc (by omega) e1 e2 (hp.l0 hl) w hb hm).mono ?_
              rintro e w' ⟨hPe, hb', hm', hC⟩
              exact ⟨S, s.on, [], More.refl _ _, hC, .inr ⟨.inr ⟨4, hPe, hfin.symm, by omega⟩, ⟨⟨vt, vw, vo, lc, t, hb', hm', hp.on hle⟩, by simp⟩⟩⟩
            | some l0 =>
              rw [hl] at e3'
              simp at e3'
              obtain ⟨lk, hlk, _, _⟩ := hp.l1 l0 hl
              subst hlk
              refine (one_bad2 g gl A n cap b hbt most sz cl hcl hsz hclb s.p s.wd _ vt vw vo lk 0 t s.out S hn hpp hle hwd2 c hc (by omega) (by omega) w hb hm).mono ?_
              rintro e w' ⟨hPe, hb', hm', hC⟩
              exact ⟨S, s.on, [], More.refl _ _, hC, .inr ⟨.inr ⟨4, hPe, hfin.symm, by omega⟩, ⟨⟨vt, vw, vo, lk, t, hb', hm', hp.on hle⟩, by simp⟩⟩⟩
          · have e3' : badC cl s.rows s.last c = false := by simpa using e3
            rw [if_neg e3] at hfin
            have hrl := row_le hgd c e1 e2 e3'
            have hgn : Gon b n cl sz most r (s.stepQ cl (rowC cl s.rows s.last c)) (rowC cl s.rows s.last c) := by
              refine ⟨k, ?_, ?_⟩
              · show 8 * n - (s.p + s.wd) < k
                omega
              · by_cases hm6 : most < s.out.length + (rowC cl s.rows s.last c).length
                · rw [if_pos hm6] at hfin
                  exact .inl ⟨hm6, hfin.symm⟩
                · rw [if_neg hm6] at hfin
                  exact .inr ⟨by show s.out.length + _ ≤ most; omega, hfin⟩
            have hmz : mz n (s.stepQ cl (rowC cl s.rows s.last c)) (rowC cl s.rows s.last c) false < mz n s [] false := mz_step (p := s.p) (by show s.p + 3 ≤ s.p + s.wd; omega) hle hrl.2.1 _ (by simp)
            cases hl : s.last with
            | none =>
              have hlt : c < cl := by
                unfold badC at e3'
                rw [hl] at e3'
                simpa using e3'
              have hr : rowC cl s.rows s.last c = [c] := by unfold rowC; rw [if_pos hlt]
              rw [hr] at hgn hmz
              refine (one_first g gl A n cap b hbt most sz cl hcl hsz hclb s.p s.wd _ vt vw vo lc 0 t s.out S hn hpp hle hwd2 c hc hlt (hp.l0 hl) w hb hm).mono ?_
              rintro e w' ⟨rfl, vw', hb', hm', hC⟩
              have hrows : rowsC cl s.rows s.last [c] = s.rows := by unfold rowsC; rw [hl, if_neg (by simp)]
              have hwide : wideC cl s.wd s.rows s.last = s.wd := by unfold wideC; rw [hl, if_neg (by simp)]
              refine ⟨S, s.stepQ cl [c], [c], More.refl _ _, hC, .inl ⟨rfl, false, ⟨⟨vt, vw', vo, _, t, ?_, hm', hp.first hle c hlt hl⟩, by simp; omega⟩, (fun h => by cases h), fun _ => hgn, hmz, Nat.le_refl _, Nat.le_succ _, hom⟩⟩
              show LzBox g gl most sz (wideC cl s.wd s.rows s.last) (cl + 2 + (rowsC cl s.rows s.last [c]).length) vt (c : Nat) vw' vo false 0 w'
              rw [hrows, hwide]
              exact hb'
            | some l0 =>
              obtain ⟨lk, hlk, hlk2, hlk3⟩ := hp.l1 l0 hl
              subst hlk
              have hl0 := hgd.last l0 hl
              have hfull := hgd.full
              refine (one_further g gl A n cap b hbt most sz cl hcl hsz hclb s.p s.wd (cl + 2 + s.rows.length) vt vw vo lk 0 t s.out S hn hpp hle hwd2 c hc e1 e2 s.rows (rowC cl s.rows s.last c) l0 (Lib.hid rfl) hfull hp.tb hlk3 (by have := hl0.2.1; omega) (by
                cases l0 with
                | nil => exact absurd rfl hl0.1
                | cons a q => simp) (further_pure hp c hc4 e1 e2 e3' l0 hl) (by omega) hrl.1 hrl.2.2 (by omega) w hb hm).mono ?_
              rintro e w' ⟨rfl, vt', vw', t', S', ht1, ht2, hb', hm', hMo, hC⟩
              refine ⟨S', s.stepQ cl (rowC cl s.rows s.last c), rowC cl s.rows s.last c, hMo, hC, .inl ⟨rfl, false, ⟨⟨vt', vw', vo, _, t', ?_, hm', hp.further hle c hc4 e1 e2 e3' l0 hl lk rfl ht1 ht2⟩, hrl.2.2⟩, (fun h => by cases h), fun _ => hgn, hmz, Nat.le_refl _, Nat.le_succ _, hom⟩⟩
              show LzBox g gl most sz (wideC cl s.wd s.rows s.last) (cl + 2 + (rowsC cl s.rows s.last (rowC cl s.rows s.last c)).length) vt' (c : Nat) vw' vo false 0 w'
              rw [growB_eq cl s.wd s.rows l0, growN_eq cl s.rows l0 (rowC cl s.rows s.last c), ← hl] at hb'
              exact hb'
end
end Go.Proofs.Ytioghgnngdcicaa
