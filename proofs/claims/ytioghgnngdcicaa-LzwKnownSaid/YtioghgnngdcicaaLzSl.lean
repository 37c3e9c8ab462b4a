/- A reader in slices: what each call tells. -/
import Derived.Test.YtioghgnngdcicaaLzL1
import Derived.Test.YtioghgnngdcicaaHigh
namespace Go.Proofs.Ytioghgnngdcicaa
set_option linter.unusedVariables false
open Go.ChangeShapes Go.WideShapes Go.ChangeAt Go.RowKit

theorem LzF.below {g gl : Nat} {A : Option Addr} {n cap : Nat} {b : Nat → Nat} {most sz cl : Nat} {r : List Nat × Nat} {k ol : Nat} {en : Bool} {S : List Nat} {w w' : World} (h : LzF g gl A n cap b most sz cl r k ol en S w) (hb : Below w.heap.size w w') : LzF g gl A n cap b most sz cl r k ol en S w' := by
  obtain ⟨s, wt, er, h1, h2⟩ := h
  exact ⟨s, wt, er, h1.below hb, h2⟩
theorem LzBad.below {g : Nat} {w w' : World} (h : LzBad g w) (hb : Below w.heap.size w w') : LzBad g w' := by
  obtain ⟨c8, c9, c10, a, c0⟩ := h
  exact ⟨(hb.cell (lt_of_cell c8)).trans c8, (hb.cell (lt_of_cell c9)).trans c9, (hb.cell (lt_of_cell c10)).trans c10, a, (hb.cell (lt_of_cell c0)).trans c0⟩
/-- All blocks of F stay. -/
structure Kept (F : Nat → Prop) (w w' : World) : Prop where
  os : w'.os = w.os
  tape : w'.tape = w.tape
  output : w'.output = w.output
  size : w.heap.size ≤ w'.heap.size
  block : ∀ k, k < w.heap.size → F k → w'.heap[k]? = w.heap[k]?
theorem Kept.refl (F : Nat → Prop) (w : World) : Kept F w w := ⟨rfl, rfl, rfl, Nat.le_refl _, fun _ _ _ => rfl⟩
theorem Kept.trans {F : Nat → Prop} {w w' w'' : World} (h : Kept F w w') (k : Kept F w' w'') : Kept F w w'' :=
  ⟨k.os.trans h.os, k.tape.trans h.tape, k.output.trans h.output, Nat.le_trans h.size k.size, fun i hi hs => (k.block i (Nat.lt_of_lt_of_le hi h.size) hs).trans (h.block i hi hs)⟩
theorem Kept.of_chg {F : Nat → Prop} {S : List Nat} {w w' : World} (h : Chg S w w') (hs : ∀ k ∈ S, ¬ F k) : Kept F w w' := ⟨h.os, h.tape, h.output, h.size, fun k hk hF => h.block k hk (fun hm => hs k hm hF)⟩
theorem Kept.of_below {F : Nat → Prop} {w w' : World} (h : Below w.heap.size w w') : Kept F w w' := ⟨h.os, h.tape, h.output, h.size, fun k hk _ => h.block k hk⟩
theorem Kept.below {F : Nat → Prop} {B : Nat} {w w' : World} (h : Kept F w w') (hF : ∀ k, k < B → F k) (hB : B ≤ w.heap.size) : Below B w w' := ⟨h.os, h.tape, h.output, h.size, fun k hk => h.block k (by omega) (hF k hk)⟩
theorem Kept.chg {F : Nat → Prop} {w w' : World} (h : Kept F w w') {Z : List Nat} (hF : ∀ k, k < w.heap.size → k ∉ Z → F k) : Chg Z w w' := ⟨h.os, h.tape, h.output, h.size, fun k hk hn => h.block k hk (hF k hk hn)⟩
theorem Byt.kept {F : Nat → Prop} {w w' : World} {A : Option Addr} {n : Nat} {c : Nat → Nat} (h : Byt w A n c) (hk : Kept F w w') (hF : ∀ a, A = some a → F a.block) : Byt w' A n c := fun hn => by
  obtain ⟨bk, off, rfl, hlt, hc⟩ := h hn
  refine ⟨bk, off, rfl, Nat.lt_of_lt_of_le hlt hk.size, fun j hj => ?_⟩
  rw [← hc j hj]
  unfold World.cell?
  rw [hk.block bk hlt (hF _ rfl)]
/-- A reader on its way to r, or there, or one that was refused. -/
def Rdr (g : Nat) (r : List Nat × Nat) (most : Nat) (F : Nat → Prop) (k ol : Nat) (en : Bool) (w : World) : Prop :=
  (∃ gl A n cap b sz S, (∀ i, b i < 256) ∧ n ≤ 1000000 ∧ most ≤ 1000000 ∧ LzF g gl A n cap b most sz (2 ^ sz) r k ol en S w ∧ (∀ x ∈ S, ¬ F x)) ∨ (en = true ∧ r = ([], 1) ∧ LzBad g w)
theorem Rdr.below {g : Nat} {r : List Nat × Nat} {most k ol : Nat} {F : Nat → Prop} {en : Bool} {w w' : World} (h : Rdr g r most F k ol en w) (hb : Below w.heap.size w w') : Rdr g r most F k ol en w' := by
  rcases h with ⟨gl, A, n, cap, b, sz, S, h1, h2, h3, h4, h5⟩ | ⟨h1, h2, h3⟩
  · exact .inl ⟨gl, A, n, cap, b, sz, S, h1, h2, h3, h4.below hb, h5⟩
  · exact .inr ⟨h1, h2, h3.below hb⟩
theorem Rdr.c9 {g : Nat} {r : List Nat × Nat} {most k ol : Nat} {F : Nat → Prop} {en : Bool} {w : World} (h : Rdr g r most F k ol en w) : w.cell? ⟨g, 9, none⟩ = some (.bool en) := by
  rcases h with ⟨gl, A, n, cap, b, sz, S, h1, h2, h3, ⟨s, wt, er, ⟨⟨vt, vw, vo, lc, t, hb, _⟩, _⟩, _⟩, h5⟩ | ⟨rfl, h2, h3⟩
  · have hb' : w.heap[g]? = _ := hb
    exact hp_cell (j := 9) hb' rfl
  · exact h3.c9
theorem Rdr.c10 {g : Nat} {r : List Nat × Nat} {most k ol : Nat} {F : Nat → Prop} {en : Bool} {w : World} (h : Rdr g r most F k ol en w) : w.cell? ⟨g, 10, none⟩ = some (.int .i64 (if en = true then ((r.2 : Nat) : Int) else 0)) := by
  rcases h with ⟨gl, A, n, cap, b, sz, S, h1, h2, h3, ⟨s, wt, er, ⟨⟨vt, vw, vo, lc, t, hb, _⟩, _⟩, _, _, _, e1, e2⟩, h5⟩ | ⟨rfl, rfl, h3⟩
  · have hb' : w.heap[g]? = _ := hb
    rw [hp_cell (j := 10) hb' rfl]
    cases en with
    | true => rw [(e1 rfl).2]; rfl
    | false => rw [(e2 rfl).1]; rfl
  · exact h3.c10
theorem Rdr.bound {g : Nat} {r : List Nat × Nat} {most k ol : Nat} {F : Nat → Prop} {w : World} (h : Rdr g r most F k ol false w) : ol ≤ most := by
  rcases h with ⟨gl, A, n, cap, b, sz, S, h1, h2, h3, ⟨s, wt, er, _, h4, _, h5, _⟩, _⟩ | ⟨h1, _⟩
  · omega
  · cases h1
/-- What a step does to a reader. -/
def RdrS (g : Nat) (r : List Nat × Nat) (most : Nat) (F : Nat → Prop) (k ol : Nat) (en : Bool) (N : Int) (w : World) (e : Ending) (w' : World) : Prop :=
  ∃ k' ol' en', e = .returned (.bool en') ∧ Rdr g r most F k' ol' en' w' ∧ Kept F w w' ∧ (en = true → en' = true) ∧ (N < 1 → en' = en) ∧ (1 ≤ N → en' = false → (ol : Int) + N ≤ ol')
set_option maxRecDepth 100000 in
set_option maxHeartbeats 1000000 in
theorem step_bad (g : Nat) (N : Int) (w : World) (h : LzBad g w) :
    Calls Try.prog 16 #[.pointer (some ⟨g, 0, none⟩), .int .i64 N] w fun e w' => e = .returned (.bool true) ∧ Below w.heap.size w w' := by
  obtain ⟨c8, c9, c10, a, c0⟩ := h
  have hgs := lt_of_cell c9
  clear c8 c10
  go_enter Try.func16, Try.ntmps16
  by_cases h1 : N < 1
  · have d1 : decide (N < 1) = true := by simp; omega
    go_wp2
    go_ret
    exact ⟨rfl, ((Below.refl _ w).alloc (Nat.le_refl _) _).alloc (by simp) _⟩
  · have d1 : decide (N < 1) = false := by simp; omega
    go_wp2
    go_ret
    exact ⟨rfl, ((Below.refl _ w).alloc (Nat.le_refl _) _).alloc (by simp) _⟩
theorem rdr_step (g : Nat) (r : List Nat × Nat) (most : Nat) (F : Nat → Prop) (k ol : Nat) (en : Bool) (N : Int) (w : World) (hB : ∀ x, F x → x < w.heap.size) (h : Rdr g r most F k ol en w) :
    Calls Try.prog 16 #[.pointer (some ⟨g, 0, none⟩), .int .i64 N] w (RdrS g r most F k ol en N w) := by
  have h0 := h
  rcases h with ⟨gl, A, n, cap, b, sz, S, h1, h2, h3, h4, h5⟩ | ⟨rfl, rfl, h3⟩
  · by_cases hi : en = true ∨ N < 1
    · refine (step_idle g gl A n cap b most sz (2 ^ sz) r k ol en S N hi w h4).mono ?_
      rintro e w' ⟨rfl, hb⟩
      refine ⟨k, ol, en, rfl, h0.below hb, Kept.of_below hb, fun h => h, fun _ => rfl, fun h6 h7 => ?_⟩
      subst h7
      rcases hi with h | h
      · cases h
      · omega
    · obtain rfl : en = false := by
        cases en with
        | true => exact absurd (.inl rfl) hi
        | false => rfl
      refine (step_any g gl A n cap b most sz (2 ^ sz) r h1 h2 h3 k ol S N (by omega) w h4).mono ?_
      rintro e w' ⟨S', k', ol', en', rfl, hF, hC, hM, _, hol⟩
      refine ⟨k', ol', en', rfl, .inl ⟨gl, A, n, cap, b, sz, S', h1, h2, h3, hF, fun x hx => ?_⟩, Kept.of_chg hC h5, (fun h => by cases h), fun h => absurd (.inr h) hi, fun _ => hol⟩
      rcases hM x hx with h | h
      · exact h5 x h
      · exact fun hF => absurd (hB x hF) (by omega)
  · refine (step_bad g N w h3).mono ?_
    rintro e w' ⟨rfl, hb⟩
    exact ⟨k, ol, true, rfl, h0.below hb, Kept.of_below hb, fun _ => rfl, fun _ => rfl, (fun _ h => by cases h)⟩
theorem rdr_out (g : Nat) (r : List Nat × Nat) (most : Nat) (F : Nat → Prop) (k ol : Nat) (w : World) (h : Rdr g r most F k ol true w) :
    Calls Try.prog 17 #[.pointer (some ⟨g, 0, none⟩)] w fun e w' => ∃ A' cap', e = .returned (.slice A' r.1.length cap') ∧ NewB w.heap.size w' r.1.length A' cap' (gz r.1) ∧ Below w.heap.size w w' := by
  rcases h with ⟨gl, A, n, cap, b, sz, S, h1, h2, h3, ⟨s, wt, er, ⟨⟨vt, vw, vo, lc, t, hb, hmm, _⟩, _⟩, ho, _, _, e1, _⟩, h5⟩ | ⟨_, rfl, h3⟩
  · have hb' : w.heap[g]? = _ := hb
    rw [(e1 rfl).1]
    exact out_yes g (g + 1) vo s.out (by omega) w (hp_cell (j := 9) hb' rfl) (hp_cell (j := 8) hb' rfl) hmm.out
  · exact out_yes g 0 (.slice none 0 0) [] (by simp) w h3.c9 h3.c8 (World.ownsRow_nil _ _ _ _)
theorem Rdr.more {g : Nat} {r : List Nat × Nat} {most k ol B : Nat} {en : Bool} {w : World} (h : Rdr g r most (fun x => x < B) k ol en w) : Rdr g r most (fun x => x < B ∨ w.heap.size ≤ x) k ol en w := by
  rcases h with ⟨gl, A, n, cap, b, sz, S, h1, h2, h3, h4, h5⟩ | h
  · have h6 := h4
    obtain ⟨s, wt, er, ⟨⟨vt, vw, vo, lc, t, hb, hmm, _⟩, _⟩, _⟩ := h6
    exact .inl ⟨gl, A, n, cap, b, sz, S, h1, h2, h3, h4, fun x hx hF => by
      rcases hF with h | h
      · exact h5 x hx h
      · have := hmm.sl x hx; omega⟩
  · exact .inr h
theorem Rdr.less {g : Nat} {r : List Nat × Nat} {most k ol : Nat} {F G : Nat → Prop} {en : Bool} {w : World} (h : Rdr g r most F k ol en w) (hF : ∀ x, G x → F x) : Rdr g r most G k ol en w := by
  rcases h with ⟨gl, A, n, cap, b, sz, S, h1, h2, h3, h4, h5⟩ | h
  · exact .inl ⟨gl, A, n, cap, b, sz, S, h1, h2, h3, h4, fun x hx hG => h5 x hx (hF x hG)⟩
  · exact .inr h
theorem rdr_new (A : Option Addr) (n cap : Nat) (b : Nat → Nat) (hbt : ∀ i, b i < 256) (hn : n ≤ cap) (hmax : cap ≤ maxLen) (hz : A = none → cap = 0) (hsmall : n ≤ 1000000) (size most : Int) (hmost : most ≤ 1000000) (w : World) (hP : Byt w A n b) :
    Calls Try.prog 14 #[.slice A n cap, .int .i64 size, .int .i64 most] w fun e w' => ∃ g k ol en, e = .returned (.pointer (some ⟨g, 0, none⟩)) ∧ Rdr g (lzwV b n size most) most.toNat (fun x => x < w.heap.size) k ol en w' ∧ Below w.heap.size w w' ∧ (en = false → ol = 0) := by
  by_cases hm : mayB size most = true
  · obtain ⟨sz, rfl⟩ : ∃ k : Nat, size = k := Int.eq_ofNat_of_zero_le (by unfold mayB at hm; simp at hm; omega)
    obtain ⟨mo, rfl⟩ : ∃ k : Nat, most = k := Int.eq_ofNat_of_zero_le (by unfold mayB at hm; simp at hm; omega)
    have h1 : 2 ≤ sz := by unfold mayB at hm; simp at hm; omega
    have h2 : sz ≤ 8 := by unfold mayB at hm; simp at hm; omega
    refine (newr_yes A n cap b hn hmax hz hsmall sz mo h1 h2 w hP).mono ?_
    rintro e w1 ⟨g, gl, A', cap', S, k, rfl, hF, hS, hB⟩
    exact ⟨g, k, 0, false, rfl, .inl ⟨gl, A', n, cap', b, sz, S, hbt, hsmall, by simp; omega, by simpa using hF, fun x hx hn => absurd (hS x hx) (by omega)⟩, hB, fun _ => rfl⟩
  · have hm' : mayB size most = false := by simpa using hm
    refine (newr_no A n cap b hn hmax hz hsmall size most hm' w hP).mono ?_
    rintro e w1 ⟨g, rfl, hb, hB⟩
    exact ⟨g, 0, 0, true, rfl, .inr ⟨rfl, lzwV_no b n size most hm', hb⟩, hB, fun h => by cases h⟩
end Go.Proofs.Ytioghgnngdcicaa
