/- A reader of GIF's codes: what is told, and Step. A new reader of GIF's codes; Read. lzw.Read. The reference's reader of GIF's codes: what lies in memory. The reference's reader of GIF's codes: the walk. -/
import Derived.Test.YtkjlejkcedemlaaM7

namespace Go.Proofs.Ytkjlejkcedemlaa
set_option maxRecDepth 100000
set_option linter.unusedVariables false
open Go.ChangeShapes Go.WideShapes Go.ChangeAt Go.RowKit

set_option maxRecDepth 100000 in
set_option maxHeartbeats 400000 in
theorem done_r (g : Nat) (en : Bool) (w : World) (h : w.cell? ⟨g, 9, none⟩ = some (.bool en)) :
    Calls Try.prog 52 #[.pointer (some ⟨g, 0, none⟩)] w fun e w' => e = .returned (.bool en) ∧ w = w' := by
  go_enter Try.func52, Try.ntmps52
  go_wp2
  go_ret
  exact ⟨rfl, rfl⟩
set_option maxRecDepth 100000 in
set_option maxHeartbeats 400000 in
theorem err_r (g : Nat) (er : Int) (w : World) (h : w.cell? ⟨g, 10, none⟩ = some (.int .i64 er)) :
    Calls Try.prog 55 #[.pointer (some ⟨g, 0, none⟩)] w fun e w' => e = .returned (.int .i64 er) ∧ w = w' := by
  go_enter Try.func55, Try.ntmps55
  go_wp2
  go_ret
  exact ⟨rfl, rfl⟩
set_option maxRecDepth 100000 in
set_option maxHeartbeats 400000 in
theorem out_no (g : Nat) (w : World) (h : w.cell? ⟨g, 9, none⟩ = some (.bool false)) :
    Calls Try.prog 54 #[.pointer (some ⟨g, 0, none⟩)] w fun e w' => e = .returned (.slice none 0 0) ∧ w = w' := by
  go_enter Try.func54, Try.ntmps54
  go_wp2_with (first | (go_at_call 52; refine (done_r g false _ h).mono ?_; rintro e w' ⟨rfl, rfl⟩))
  go_ret
  exact ⟨rfl, rfl⟩
set_option maxRecDepth 100000 in
set_option maxHeartbeats 400000 in
theorem out_yes (g base : Nat) (vo : Value) (o : List Nat) (ho : o.length ≤ 1000000) (w : World) (h : w.cell? ⟨g, 9, none⟩ = some (.bool true)) (h8 : w.cell? ⟨g, 8, none⟩ = some vo) (hr : w.ownsRow base 5 1 vo o.length (cellsB o)) :
    Calls Try.prog 54 #[.pointer (some ⟨g, 0, none⟩)] w fun e w' => ∃ A' cap', e = .returned (.slice A' o.length cap') ∧ NewB w.heap.size w' o.length A' cap' (gz o) ∧ Below w.heap.size w w' := by
  obtain ⟨A, cap, rfl, q1, q2, q3, q4⟩ := byt_of_row hr
  go_enter Try.func54, Try.ntmps54
  go_wp2_with (first | (go_at_call 52; refine (done_r g true _ h).mono ?_; rintro e w' ⟨rfl, rfl⟩))
  refine (clone8 A o.length cap (gz o) q1 q2 q3 ho _ q4).mono ?_
  rintro e w1 ⟨A', cap', rfl, hN, hB⟩
  have HN := Lib.hid hN
  have HB := Lib.hid hB
  clear hN hB
  go_wp2
  go_ret
  exact ⟨A', cap', rfl, HN.out, HB.out⟩
/-- How far a reader is from its end. -/
def kz (n : Nat) (s : Cz) (wt : List Nat) (en : Bool) : Nat := if en = true then 0 else mz n s wt false
/-- A reader on its way to r, or there. -/
def LzF (g gl : Nat) (A : Option Addr) (n cap : Nat) (b : Nat → Nat) (most sz cl : Nat) (r : List Nat × Nat) (k ol : Nat) (en : Bool) (S : List Nat) (w : World) : Prop :=
  ∃ s wt er, LzS g gl A n cap b most sz cl s wt en er S w ∧ s.out.length ≤ most ∧ kz n s wt en = k ∧ s.out.length = ol ∧ (en = true → r.1 = s.out ∧ er = ((r.2 : Nat) : Int)) ∧ (en = false → er = 0 ∧ Gon b n cl sz most r s wt)
theorem LzMem.setE {g gl : Nat} {A : Option Addr} {n cap : Nat} {b : Nat → Nat} {p : Nat} {vt vw vo : Value} {t : List (Nat × Nat)} {wt o : List Nat} {S : List Nat} {w : World} (h : LzMem g gl A n cap b p vt vw vo t wt o S w) {E : Nat} {x : Int} {T : TypeId} (hE : w.heap[E]? = some (.cells #[.int .i64 x] T (0, 0))) (hS : E ∉ S) (hg : g < E) (v : Value) : LzMem g gl A n cap b p vt vw vo t wt o S (w.setCell ⟨E, 0, none⟩ v) := by
  have hc : Chg [E] w (w.setCell ⟨E, 0, none⟩ v) := (Chg.refl _ w).set (.inl (by simp)) _ _
  have hgl := h.glg
  obtain ⟨Aw, c, he, h1, h2, hz, hb, ha⟩ := h.wts
  refine ⟨h.rd.chg hc (by simp; omega) (fun _ a hA hm => by have := h.ab a hA; simp at hm; omega), own_chg h.tab hc (fun k hk hm => hS (by simp at hm; rw [← hm]; exact h.s3 k hk)), own_chg h.out hc (fun k hk hm => hS (by simp at hm; rw [← hm]; exact h.s4 k hk)), ⟨Aw, c, he, h1, h2, hz, fun hl => ?_, fun a hA => ?_⟩, h.ap, h.glg, h.ab, Nat.lt_of_lt_of_le h.gs hc.size, h.s1, h.s2, h.s3, h.s4, fun k hk => Nat.lt_of_lt_of_le (h.sl k hk) hc.size⟩
  · obtain ⟨bk, off, rfl, hlt, hcell⟩ := hb hl
    have hne : bk ≠ E := by
      rintro rfl
      have h0 := hcell 0 hl
      unfold World.cell? at h0
      rw [hE] at h0
      cases off with
      | zero => simp at h0
      | succ q => simp at h0
    refine ⟨bk, off, rfl, Nat.lt_of_lt_of_le hlt hc.size, fun j hj => ?_⟩
    rw [← hcell j hj]
    exact World.cell?_setCell_other _ _ _ _ (fun e => hne (by have := congrArg Addr.block e; exact this.symm))
  · obtain ⟨r1, r2, r3, r4⟩ := ha a hA
    exact ⟨r1, Nat.lt_of_lt_of_le r2 hc.size, r3, r4⟩
theorem LzS.setE {g gl : Nat} {A : Option Addr} {n cap : Nat} {b : Nat → Nat} {most sz cl : Nat} {s : Cz} {wt : List Nat} {en : Bool} {er : Int} {S : List Nat} {w : World} (h : LzS g gl A n cap b most sz cl s wt en er S w) {E : Nat} {x : Int} {T : TypeId} (hE : w.heap[E]? = some (.cells #[.int .i64 x] T (0, 0))) (hS : E ∉ S) (hg : g < E) (v : Value) : LzS g gl A n cap b most sz cl s wt en er S (w.setCell ⟨E, 0, none⟩ v) := by
  obtain ⟨⟨vt, vw, vo, lc, t, hb, hm, hp⟩, h2⟩ := h
  exact ⟨⟨vt, vw, vo, lc, t, (Below.heap_setCell w _ v g (by show g ≠ E; omega)).trans hb, hm.setE hE hS hg v, hp⟩, h2⟩
/-- The end by an error: nothing is out. -/
theorem LzS.fail {g gl : Nat} {A : Option Addr} {n cap : Nat} {b : Nat → Nat} {most sz cl : Nat} {s : Cz} {wt : List Nat} {S : List Nat} {w : World} (h : LzS g gl A n cap b most sz cl s wt false 0 S w) (q : Int) {w' : World} (hc : Chg [g] w w')
    (hb : ∀ vt vw vo lc, LzBox g gl most sz s.wd (cl + 2 + s.rows.length) vt lc vw vo false 0 w → LzBox g gl most sz s.wd (cl + 2 + s.rows.length) vt lc vw (.slice none 0 0) true q w') :
    LzS g gl A n cap b most sz cl ⟨s.p, s.wd, s.rows, s.last, []⟩ wt true q S w' := by
  obtain ⟨⟨vt, vw, vo, lc, t, hx, hm, hp⟩, h2⟩ := h
  have hg := hp.good
  exact ⟨⟨vt, vw, .slice none 0 0, lc, t, hb _ _ _ _ hx, hm.nilOut.setG hc (by simp), ⟨⟨hg.clv, hg.sz2, hg.sz8, hg.wd1, hg.wd2, hg.p, hg.full, hg.rows, hg.last, hg.none, by simp⟩, hp.tb, hp.l0, hp.l1⟩⟩, h2⟩
theorem ent_step (a b c : Value) : EntersL 64 #[a, b, c] := fun W => by kernel_rfl
set_option maxRecDepth 100000 in
set_option maxHeartbeats 2000000 in
theorem step_idle (g gl : Nat) (A : Option Addr) (n cap : Nat) (b : Nat → Nat) (most sz cl : Nat) (r : List Nat × Nat) (k ol : Nat) (en : Bool) (S : List Nat) (N : Int) (hN : en = true ∨ N < 1) (w : World) (h : LzF g gl A n cap b most sz cl r k ol en S w) :
    Calls Try.prog 53 #[.pointer (some ⟨g, 0, none⟩), .int .i64 N] w fun e w' => e = .returned (.bool en) ∧ Below w.heap.size w w' := by
  obtain ⟨s, wt, er, ⟨⟨vt, vw, vo, lc, t, hb, hm, hp⟩, _⟩, _⟩ := h
  have hb' : w.heap[g]? = _ := hb
  have c0 := hp_cell (j := 0) hb' rfl
  have c9 := hp_cell (j := 9) hb' rfl
  have hgs := hm.gs
  clear hb hb' hm hp
  go_enter Try.func53, Try.ntmps53
  by_cases h1 : N < 1
  · have d1 : decide (N < 1) = true := by simp; omega
    go_wp2
    go_ret
    exact ⟨rfl, ((Below.refl _ w).alloc (Nat.le_refl _) _).alloc (by simp) _⟩
  · obtain rfl : en = true := by
      rcases hN with h | h
      · exact h
      · exact absurd h h1
    have d1 : decide (N < 1) = false := by simp; omega
    go_wp2
    go_ret
    exact ⟨rfl, ((Below.refl _ w).alloc (Nat.le_refl _) _).alloc (by simp) _⟩
set_option maxRecDepth 100000 in
set_option maxHeartbeats 2000000 in
theorem step_any (g gl : Nat) (A : Option Addr) (n cap : Nat) (b : Nat → Nat) (most sz cl : Nat) (r : List Nat × Nat) (hbt : ∀ i, b i < 256) (hn : n ≤ 1000000) (hmost : most ≤ 1000000) (k ol : Nat) (S : List Nat) (N : Int) (hN : 1 ≤ N) (w : World) (h : LzF g gl A n cap b most sz cl r k ol false S w) :
    Calls Try.prog 53 #[.pointer (some ⟨g, 0, none⟩), .int .i64 N] w fun e w' => ∃ S' k' ol' en', e = .returned (.bool en') ∧ LzF g gl A n cap b most sz cl r k' ol' en' S' w' ∧ Chg S w w' ∧ More S S' w ∧ k' < k ∧ (en' = false → (ol : Int) + N ≤ ol') := by
  obtain ⟨s, wt, er, hLS, hom, hkz, hol, _, he2⟩ := h
  obtain ⟨rfl, hgon⟩ := he2 rfl
  clear he2
  subst hol
  have hLS2 := hLS
  obtain ⟨⟨vt, vw, vo, lc, t, hb, hm, hp⟩, _⟩ := hLS2
  obtain ⟨_, Ao, co, rfl, q1, q2, _⟩ := Sl.of_own hm.out
  have hb' : w.heap[g]? = _ := hb
  have hkz' : mz n s wt false = k := hkz
  have c0 := hp_cell (j := 0) hb' rfl
  have c8 := hp_cell (j := 8) hb' rfl
  have c9 := hp_cell (j := 9) hb' rfl
  have hgs := hm.gs
  have hsl := hm.sl
  have hgS0 := hm.s1
  have hk0 : 0 < k := by rw [← hkz']; unfold mz; simp
  have d1 : decide (N < 1) = false := by simp; omega
  have HLS := Lib.hid hLS
  have HSL := Lib.hid hsl
  clear hb hb' hm hp hLS hkz hsl q1 q2
  go_enter Try.func53, Try.ntmps53
  have hmf : ∀ (fn : Fn) (first cap : Array Value) (w : World), (Instr.makeFunc fn first cap).run Try.prog w = .ok (.func fn first cap) w := fun _ _ _ _ => rfl
  go_wp2_with fail
  obtain ⟨wB, hwB⟩ : ∃ wB, wB = ((w.alloc (.cells #[.pointer (some ⟨g, 0, none⟩)] 99)).alloc (.cells #[.int .i64 N] 3)).alloc (.cells #[.int .i64 (s.out.length : Nat)] 3) := ⟨_, rfl⟩
  have hBl : Below w.heap.size w wB := by rw [hwB]; exact (((Below.refl _ w).alloc (Nat.le_refl _) _).alloc (by simp) _).alloc (by simp; omega) _
  have hsB : wB.heap.size = w.heap.size + 3 := by rw [hwB]; simp
  have b1 : wB.heap[w.heap.size]? = some (.cells #[.pointer (some ⟨g, 0, none⟩)] 99 (0, 0)) := by rw [hwB]; exact hp_alloc _ (hp_alloc _ (hp_new0 w _))
  have b2 : wB.heap[w.heap.size + 1]? = some (.cells #[.int .i64 N] 3 (0, 0)) := by
    rw [hwB]
    have := hp_new0 (w.alloc (.cells #[.pointer (some ⟨g, 0, none⟩)] 99)) (.cells #[.int .i64 N] 3)
    rw [World.size_alloc] at this
    exact hp_alloc _ this
  have b3 : wB.heap[w.heap.size + 1 + 1]? = some (.cells #[.int .i64 (s.out.length : Nat)] 3 (0, 0)) := by
    rw [hwB]
    have := hp_new0 ((w.alloc (.cells #[.pointer (some ⟨g, 0, none⟩)] 99)).alloc (.cells #[.int .i64 N] 3)) (.cells #[.int .i64 (s.out.length : Nat)] 3)
    rw [World.size_alloc, World.size_alloc] at this
    exact this
  rw [← hwB]
  clear hwB
  have hCB : Chg S w wB := Chg.of_below hBl
  have hStB : StB g w.heap.size (w.heap.size + 1 + 1) (w.heap.size + 1) s.out.length N S (wB.alloc (.cells #[.int .i64 0] 27)) := ⟨hp_alloc _ b1, hp_alloc _ b3, hp_alloc _ b2, fun h => by have := HSL.out _ h; omega, fun h => by have := HSL.out _ h; omega, fun h => by have := HSL.out _ h; omega⟩
  have hLB := (HLS.out.below hBl).below ((Below.refl _ wB).alloc (Nat.le_refl _) (.cells #[.int .i64 0] 27))
  refine (tried_any r 64 _ (ent_step _ _ _) wB (StY g gl A n cap b most sz cl r s.out.length N S (wB.alloc (.cells #[.int .i64 0] 27)) k) (StN g gl A n cap b most sz cl S (wB.alloc (.cells #[.int .i64 0] 27))) ?_).mono ?_
  · refine (step_loop g gl A n cap b most sz cl r hbt hn hmost w.heap.size (w.heap.size + 1 + 1) (w.heap.size + 1) N hN s wt S hom hgon _ hStB hLB).mono ?_
    intro e w' hP
    rw [hkz'] at hP
    have hE : ∀ w', Chg S (wB.alloc (.cells #[.int .i64 0] 27)) w' → w'.heap[wB.heap.size]? = some (.cells #[.int .i64 0] 27 (0, 0)) := fun w' hc => hp_chg (hp_new0 wB _) hc (fun h => by have := HSL.out _ h; omega)
    rcases hP with ⟨h1, h2⟩ | ⟨h1, h2⟩
    · refine ⟨?_, .inl ⟨h1, h2⟩⟩
      obtain ⟨S2, s2, wt2, en2, _, _, hC, _⟩ := h2
      exact hE _ hC
    · refine ⟨?_, .inr ⟨h1, h2⟩⟩
      obtain ⟨S2, s2, wt2, _, hC, _⟩ := h2
      exact hE _ hC
  rintro e w' ⟨q, w1, rfl, hE, hw', hd⟩
  have HCB := Lib.hid hCB
  clear hLB hStB hCB b2 b3
  have hpres : ∀ s wt en er S2, wB.heap.size ∉ S2 → LzS g gl A n cap b most sz cl s wt en er S2 w1 → LzS g gl A n cap b most sz cl s wt en er S2 w' := fun s wt en er S2 hS2 hx => by
    have h9 := hx.setE hE hS2 (by omega) (.int .i64 (q : Nat))
    rcases hw' with rfl | rfl
    · exact h9
    · exact h9.below ((Below.refl _ _).alloc (Nat.le_refl _) _)
  have hCE : Chg [wB.heap.size] w1 w' := by
    rcases hw' with rfl | rfl
    · exact (Chg.refl _ w1).set (.inl (by simp)) _ _
    · exact ((Chg.refl _ w1).set (.inl (by simp)) _ _).alloc _
  clear hw'
  rcases hd with ⟨rfl, S2, s2, wt2, en2, hz, hL, hC, hM, hh1, hh2, hh3, hh4⟩ | ⟨hq, rfl, S2, s2, wt2, hL, hC, hM⟩
  · have hES : wB.heap.size ∉ S2 := fun hm => by
      rcases hM _ hm with h | h
      · have := HSL.out _ h; omega
      · have h8 : wB.heap.size + 1 ≤ wB.heap.size := by simpa using h
        omega
    have hLF := hpres _ _ _ _ _ hES hL
    have hbr := hp_chg (hp_chg (hp_alloc (.cells #[.int .i64 0] 27) b1) hC (fun h => by have := HSL.out _ h; omega)) hCE (by simp; omega)
    have cbr := hp_cell (j := 0) hbr rfl
    have hLF2 := hLF
    obtain ⟨⟨vt2, vw2, vo2, lc2, t2, hb2, hm2, hp2⟩, _⟩ := hLF2
    have e9 := hp_cell (j := 9) hb2 rfl
    have hCh : Chg S w w' := ((HCB.out.alloc (.cells #[.int .i64 0] 27)).trans hC).trans2 hCE (fun x hx => by simp at hx; omega)
    have hMo : More S S2 w := fun x hx => by
      rcases hM x hx with h | h
      · exact .inl h
      · exact .inr (by have h8 : wB.heap.size + 1 ≤ x := by simpa using h
                       omega)
    have hkk : kz n s2 wt2 en2 < k := by
      unfold kz
      cases en2
      · simpa using hz
      · simpa using hk0
    have HLF := Lib.hid hLF
    have HCh := Lib.hid hCh
    have HMo := Lib.hid hMo
    have H1 := Lib.hid hh1
    have H2 := Lib.hid hh2
    have H3 := Lib.hid hh3
    have H4 := Lib.hid hh4
    have HK := Lib.hid hkk
    clear hLF hCh hMo hbr hb2 hm2 hp2 hpres hE hL hC hM hh1 hh2 hh3 hh4 hkk hz hgon hkz' b1 c0 c8 c9 hBl hCE
    go_wp2
    go_ret
    refine ⟨S2, _, _, en2, rfl, ⟨s2, wt2, 0, HLF.out, H4.out, rfl, rfl, (fun h => by rw [H1.out h]; exact ⟨rfl, rfl⟩), (fun h => ⟨rfl, (H2.out h).1⟩)⟩, HCh.out, HMo.out, HK.out, (fun h => by have := (H2.out h).2; have := H3.out; omega)⟩
  · have hES : wB.heap.size ∉ S2 := fun hm => by
      rcases hM _ hm with h | h
      · have := HSL.out _ h; omega
      · have h8 : wB.heap.size + 1 ≤ wB.heap.size := by simpa using h
        omega
    have hLF := hpres _ _ _ _ _ hES hL
    have hbr := hp_chg (hp_chg (hp_alloc (.cells #[.int .i64 0] 27) b1) hC (fun h => by have := HSL.out _ h; omega)) hCE (by simp; omega)
    have cbr := hp_cell (j := 0) hbr rfl
    have hLF2 := hLF
    obtain ⟨⟨vt2, vw2, vo2, lc2, t2, hb2, hm2, hp2⟩, _⟩ := hLF2
    obtain ⟨_, Ao2, co2, rfl, _, _, _⟩ := Sl.of_own hm2.out
    have e8 := hp_cell (j := 8) hb2 rfl
    have e9 := hp_cell (j := 9) hb2 rfl
    have e10 := hp_cell (j := 10) hb2 rfl
    have ef := fun j => hp_froz hb2 j
    have hCh : Chg S w w' := ((HCB.out.alloc (.cells #[.int .i64 0] 27)).trans hC).trans2 hCE (fun x hx => by simp at hx; omega)
    have hMo : More S S2 w := fun x hx => by
      rcases hM x hx with h | h
      · exact .inl h
      · exact .inr (by have h8 : wB.heap.size + 1 ≤ x := by simpa using h
                       omega)
    have hgS := hm2.s1
    have hq0 : ((q : Int) == 0) = false := by rw [beq_eq_false_iff_ne]; omega
    have hq1 : ((q : Int) != 0) = true := by rw [bne_iff_ne]; omega
    have hne : ¬ g = w.heap.size := by omega
    have HLF := Lib.hid hLF
    have HCh := Lib.hid hCh
    have HMo := Lib.hid hMo
    clear hLF hCh hMo hbr hb2 hm2 hp2 hpres hE hL hC hM hgon hkz' b1 c0 c8 c9 hBl hCE
    go_wp2_with fail
    go_region
    all_goals
      go_wp2
      go_ret
      have hc3 : Chg [g] w' ((((w'.setCell ⟨g, 9, none⟩ (.bool true)).setCell ⟨g, 10, none⟩ (.int .i64 (q : Nat))).setCell ⟨g, 8, none⟩ (.slice none 0 0)).drew) := ((((Chg.refl _ w').set (.inl (by simp)) _ _).set (.inl (by simp)) _ _).set (.inl (by simp)) _ _).drew
      refine ⟨S2, _, _, true, rfl, ⟨_, wt2, (q : Nat), HLF.out.fail (q : Nat) hc3 (fun vt vw vo lc h => heap_set (heap_set (heap_set h))), by simp, rfl, rfl, (fun _ => ⟨rfl, rfl⟩), (fun h => by cases h)⟩, HCh.out.trans (hc3.mono (by simpa using hgS0)), HMo.out, by simpa [kz] using hk0, (fun h => by cases h)⟩
end Go.Proofs.Ytkjlejkcedemlaa

namespace Go.Proofs.Ytkjlejkcedemlaa
set_option maxRecDepth 100000
set_option linter.unusedVariables false
open Go.ChangeShapes Go.WideShapes Go.ChangeAt Go.RowKit

/-- A reader that is told off: its end from the beginning. -/
structure LzBad (g : Nat) (w : World) : Prop where
  c8 : w.cell? ⟨g, 8, none⟩ = some (.slice none 0 0)
  c9 : w.cell? ⟨g, 9, none⟩ = some (.bool true)
  c10 : w.cell? ⟨g, 10, none⟩ = some (.int .i64 1)
  c0 : ∃ a, w.cell? ⟨g, 0, none⟩ = some (.pointer (some a))
def mayZ (size most : Int) : Bool := decide (2 ≤ size ∧ size ≤ 8 ∧ 0 ≤ most)
theorem lzwV_no (b : Nat → Nat) (n : Nat) (size most : Int) (h : mayZ size most = false) : lzwV b n size most = ([], 1) := by
  unfold mayZ at h
  simp at h
  unfold lzwV
  rw [if_pos (by omega)]
theorem lzwV_yes (b : Nat → Nat) (n sz most : Nat) (h1 : 2 ≤ sz) (h2 : sz ≤ 8) : lzwV b n sz most = finC b n (2 ^ sz) sz most (8 * n + 1) (cz0 sz) := by
  unfold lzwV
  rw [if_neg (by omega)]
  rfl
set_option maxRecDepth 100000 in
set_option maxHeartbeats 1000000 in
theorem newr_no (A : Option Addr) (n cap : Nat) (b : Nat → Nat) (hn : n ≤ cap) (hmax : cap ≤ maxLen) (hz : A = none → cap = 0) (hsmall : n ≤ 1000000) (size most : Int) (hm : mayZ size most = false) (w : World) (hP : Byt w A n b) :
    Calls Try.prog 51 #[.slice A n cap, .int .i64 size, .int .i64 most] w fun e w' => ∃ g, e = .returned (.pointer (some ⟨g, 0, none⟩)) ∧ LzBad g w' ∧ Below w.heap.size w w' := by
  unfold mayZ at hm
  go_enter Try.func51, Try.ntmps51
  go_wp2_with fail
  refine (newL2 A n cap b hn hmax hz hsmall _ hP).mono ?_
  rintro e w1 ⟨gl, A', cap', rfl, hge, hR, hA, hf, hB⟩
  have HB := Lib.hid hB
  clear hB hR hA hf
  go_wp2_with fail
  refine (may_w size _).mono ?_
  rintro e w2 ⟨rfl, rfl⟩
  by_cases h1 : 2 ≤ size ∧ size ≤ 8
  · have d1 : decide (2 ≤ size ∧ size ≤ 8) = true := by simp; exact h1
    have d2 : decide (most < 0) = true := by simp at hm ⊢; omega
    rw [d1]
    go_wp2
    go_ret
    exact ⟨_, rfl, ⟨hp_cell (j := 8) (hp_new0 _ _) rfl, hp_cell (j := 9) (hp_new0 _ _) rfl, hp_cell (j := 10) (hp_new0 _ _) rfl, ⟨_, hp_cell (j := 0) (hp_new0 _ _) rfl⟩⟩, HB.out.alloc HB.out.size _⟩
  · have d1 : decide (2 ≤ size ∧ size ≤ 8) = false := by simp; omega
    rw [d1]
    go_wp2
    go_ret
    exact ⟨_, rfl, ⟨hp_cell (j := 8) (hp_new0 _ _) rfl, hp_cell (j := 9) (hp_new0 _ _) rfl, hp_cell (j := 10) (hp_new0 _ _) rfl, ⟨_, hp_cell (j := 0) (hp_new0 _ _) rfl⟩⟩, HB.out.alloc HB.out.size _⟩
set_option maxRecDepth 100000 in
set_option maxHeartbeats 1000000 in
theorem newr_yes (A : Option Addr) (n cap : Nat) (b : Nat → Nat) (hn : n ≤ cap) (hmax : cap ≤ maxLen) (hz : A = none → cap = 0) (hsmall : n ≤ 1000000) (sz most : Nat) (h1 : 2 ≤ sz) (h2 : sz ≤ 8) (w : World) (hP : Byt w A n b) :
    Calls Try.prog 51 #[.slice A n cap, .int .i64 (sz : Nat), .int .i64 (most : Nat)] w fun e w' => ∃ g gl A' cap' S k, e = .returned (.pointer (some ⟨g, 0, none⟩)) ∧ LzF g gl A' n cap' b most sz (2 ^ sz) (lzwV b n sz most) k 0 false S w' ∧ (∀ x ∈ S, w.heap.size ≤ x) ∧ Below w.heap.size w w' := by
  go_enter Try.func51, Try.ntmps51
  go_wp2_with fail
  refine (newL2 A n cap b hn hmax hz hsmall _ hP).mono ?_
  rintro e w1 ⟨gl, A', cap', rfl, hge, hR, hA, hf, hB⟩
  have hgl := lt_heap hR.box
  have HB := Lib.hid hB
  have HR := Lib.hid hR
  have HA := Lib.hid hA
  clear hB hR hA hf
  go_wp2_with fail
  refine (may_w (sz : Nat) _).mono ?_
  rintro e w2 ⟨rfl, rfl⟩
  have d1 : decide (2 ≤ (sz : Int) ∧ (sz : Int) ≤ 8) = true := by simp; omega
  have d2 : decide ((most : Int) < 0) = false := by simp
  rw [d1]
  obtain ⟨wB, hwB⟩ : ∃ wB, wB = w1.alloc (.cells #[.pointer (some ⟨gl, 0, none⟩), .int .i64 (most : Nat), .int .i64 (sz : Nat), .int .i64 0, .int .i64 0, .slice none 0 0, .int .i64 (-1), .slice none 0 0, .slice none 0 0, .bool false, .int .i64 0] 111) := ⟨_, rfl⟩
  have hb := hp_new0 w1 (.cells #[.pointer (some ⟨gl, 0, none⟩), .int .i64 (most : Nat), .int .i64 (sz : Nat), .int .i64 0, .int .i64 0, .slice none 0 0, .int .i64 (-1), .slice none 0 0, .slice none 0 0, .bool false, .int .i64 0] 111)
  rw [← hwB] at hb
  have hsz : wB.heap.size = w1.heap.size + 1 := by rw [hwB]; simp
  have hBB : Below w.heap.size w wB := by rw [hwB]; exact HB.out.alloc HB.out.size _
  have hRB : Rd 117 gl A' n cap' b 0 (.slice none 0 0) 0 wB := by rw [hwB]; exact HR.out.alloc _
  have hW3 : W3 w1.heap.size 2 sz 0 0 wB := ⟨hp_cell (j := 2) hb rfl, hp_cell (j := 3) hb rfl, hp_cell (j := 4) hb rfl, fun j => hp_froz hb j⟩
  have HW := Lib.hid hwB
  have HBX := Lib.hid hb
  have HBB := Lib.hid hBB
  have HRB := Lib.hid hRB
  have hw1 := HB.out.size
  clear hwB hb hBB hRB
  go_wp2_with fail
  rw [← HW.out]
  refine (reset_w w1.heap.size 2 sz 0 0 h2 _ hW3).mono ?_
  rintro e w2 ⟨rfl, hS⟩
  have hb2 := hS.blk _ _ HBX.out
  have hmem : LzMem w1.heap.size gl A' n cap' b 0 (.slice none 0 0) (.slice none 0 0) (.slice none 0 0) [] [] [] [w1.heap.size, gl] wB :=
    ⟨HRB.out, World.ownsRow_nil _ _ _ _, World.ownsRow_nil _ _ _ _, ⟨none, 0, rfl, Nat.le_refl _, by simp [maxLen], fun _ => rfl, (fun h => by simp at h), (fun a h => by cases h)⟩, (fun k h => by cases h), hgl, (fun a h => (HA.out a h).2), by omega, by simp, by simp, (fun k h => by cases h), (fun k h => by cases h), fun k hk => by simp at hk; omega⟩
  have hm2 := hmem.setG hS.chg (by simp)
  have HB2 := Lib.hid hb2
  have HM2 := Lib.hid hm2
  have HC2 := Lib.hid (HBB.out.trans (hS.chg.below (B := w.heap.size) (by omega) (fun k hk => by simp at hk; omega)))
  clear hS hb2 hm2 hmem hW3
  go_wp2
  go_ret
  have hgd := good0 n sz h1 h2
  refine ⟨w1.heap.size, gl, A', cap', [w1.heap.size, gl], _, rfl, ⟨cz0 sz, [], 0, ⟨⟨.slice none 0 0, .slice none 0 0, .slice none 0 0, -1, [], HB2.out, HM2.out, ⟨hgd, ⟨rfl, fun i r hi => by simp [cz0] at hi⟩, fun _ => rfl, fun l h => by cases h⟩⟩, by simp⟩, by simp [cz0], rfl, rfl, (fun h => by cases h), fun _ => ⟨rfl, 8 * n + 1, by simp [cz0], .inr ⟨by simp [cz0], ?_⟩⟩⟩, fun x hx => by simp at hx; omega, HC2.out⟩
  rw [lzwV_yes b n sz most h1 h2]
  rfl
end Go.Proofs.Ytkjlejkcedemlaa

namespace Go.Proofs.Ytkjlejkcedemlaa
set_option maxRecDepth 100000
set_option linter.unusedVariables false
open Go.ChangeShapes Go.WideShapes Go.ChangeAt Go.RowKit

theorem NewB.chgB {B : Nat} {w w' : World} {n : Nat} {A : Option Addr} {cap : Nat} {b : Nat → Nat} (h : NewB B w n A cap b) (hb : Below w.heap.size w w') : NewB B w' n A cap b :=
  ⟨h.le, h.max, h.nil, h.byt.below hb, h.far, (fun a ha => Nat.lt_of_lt_of_le (h.lt a ha) hb.size), h.form⟩
/-- What a reader's loop has. -/
def RdR (g gl : Nat) (A : Option Addr) (n cap : Nat) (b : Nat → Nat) (most sz cl : Nat) (r : List Nat × Nat) (w0 : World) (k : Nat) (wr : World) : Prop :=
  ∃ S ol en, LzF g gl A n cap b most sz cl r k ol en S wr ∧ (∀ x ∈ S, w0.heap.size ≤ x) ∧ Below w0.heap.size w0 wr
set_option maxRecDepth 100000 in
set_option maxHeartbeats 2000000 in
theorem read_lzw (A : Option Addr) (n cap : Nat) (b : Nat → Nat) (hbt : ∀ i, b i < 256) (hn : n ≤ cap) (hmax : cap ≤ maxLen) (hz : A = none → cap = 0) (hsmall : n ≤ 1000000) (size most : Int) (hmost : most ≤ 1000000) (w : World) (hP : Byt w A n b) :
    Calls Try.prog 46 #[.slice A n cap, .int .i64 size, .int .i64 most] w fun e w' => ∃ A' cap', e = .returned (.tuple #[.slice A' (lzwV b n size most).1.length cap', .int .i64 ((lzwV b n size most).2 : Nat)]) ∧ NewB w.heap.size w' (lzwV b n size most).1.length A' cap' (gz (lzwV b n size most).1) ∧ Below w.heap.size w w' := by
  by_cases hm : mayZ size most = true
  · obtain ⟨sz, rfl⟩ : ∃ k : Nat, size = k := Int.eq_ofNat_of_zero_le (by unfold mayZ at hm; simp at hm; omega)
    obtain ⟨mo, rfl⟩ : ∃ k : Nat, most = k := Int.eq_ofNat_of_zero_le (by unfold mayZ at hm; simp at hm; omega)
    have h1 : 2 ≤ sz := by unfold mayZ at hm; simp at hm; omega
    have h2 : sz ≤ 8 := by unfold mayZ at hm; simp at hm; omega
    obtain ⟨r, hr⟩ : ∃ r, r = lzwV b n sz mo := ⟨_, rfl⟩
    rw [← hr]
    have HR := Lib.hid hr
    clear hr
    go_enter Try.func46, Try.ntmps46
    go_wp2_with fail
    refine (newr_yes A n cap b hn hmax hz hsmall sz mo h1 h2 _ hP).mono ?_
    rintro e w1 ⟨g, gl, A', cap', S, k, rfl, hF, hS, hB⟩
    rw [← HR.out] at hF
    clear HR
    have H0 : Hid (RdR g gl A' n cap' b mo sz (2 ^ sz) r w k w1) := Lib.hid ⟨S, 0, false, hF, hS, hB⟩
    clear hF hS hB hm
    go_wp2_with fail
    go_loopg [] k (fun k wr => RdR g gl A' n cap' b mo sz (2 ^ sz) r w k wr)
    case atStart => exact H0.out
    case round =>
      obtain ⟨S1, ol, en, hF, hS, hB⟩ := hrel
      have hF2 := hF
      obtain ⟨s, wt, er, ⟨⟨vt, vw, vo, lc, t, hb, hmm, hp⟩, h256⟩, hom, hkz, hol, he1, he2⟩ := hF2
      subst hol
      clear hkz
      have c8 := hp_cell (j := 8) hb rfl
      have c9 := hp_cell (j := 9) hb rfl
      have c10 := hp_cell (j := 10) hb rfl
      have ho := hmm.out
      have HF := Lib.hid hF
      have HS := Lib.hid hS
      have HB := Lib.hid hB
      clear hF hS hB hb hp h256 hmm
      cases en with
      | true =>
        obtain ⟨q1, q2⟩ := he1 rfl
        clear he1 he2
        obtain ⟨r1, r2⟩ := r
        simp only at q1 q2
        subst q1 q2
        go_wp2_with fail
        refine (done_r g true _ c9).mono ?_
        rintro e w' ⟨rfl, rfl⟩
        go_wp2_with fail
        refine (out_yes g (g + 1) vo s.out (by omega) _ c9 c8 ho).mono ?_
        rintro e w2 ⟨A2, cap2, rfl, hN, hB2⟩
        have c10' := (hB2.cell (p := ⟨g, 10, none⟩) (lt_of_cell c10)).trans c10
        have hN2 : NewB w.heap.size w2 s.out.length A2 cap2 (gz s.out) := ⟨hN.le, hN.max, hN.nil, hN.byt, (fun a ha => Nat.le_trans HB.out.size (hN.far a ha)), hN.lt, hN.form⟩
        have HN := Lib.hid hN2
        have HB2 := Lib.hid (HB.out.trans (hB2.mono HB.out.size))
        clear hN hB2 hN2 c8 c9 c10 ho
        go_wp2_with fail
        refine (err_r g r2 _ c10').mono ?_
        rintro e w3 ⟨rfl, rfl⟩
        go_wp2
        go_ret2
        exact ⟨A2, cap2, rfl, HN.out, HB2.out⟩
      | false =>
        clear he1 he2
        go_wp2_with fail
        refine (done_r g false _ c9).mono ?_
        rintro e w' ⟨rfl, rfl⟩
        go_wp2_with fail
        refine (step_any g gl A' n cap' b mo sz (2 ^ sz) r hbt hsmall (by omega) gk _ S1 1048576 (by omega) _ HF.out).mono ?_
        rintro e w2 ⟨S2, k2, ol2, en2, rfl, hF2, hC2, hM2, hk2, _⟩
        have hnew : RdR g gl A' n cap' b mo sz (2 ^ sz) r w k2 w2 := ⟨S2, ol2, en2, hF2, fun x hx => by
          rcases hM2 x hx with h | h
          · exact HS.out x h
          · exact Nat.le_trans HB.out.size h, HB.out.trans (hC2.below HB.out.size HS.out)⟩
        have HW := Lib.hid hnew
        clear hF2 hC2 hM2 hnew c8 c9 c10 ho
        go_wp2_with fail
        go_roundg k2
        case measure => exact hk2
        case rel => exact HW.out
  · have hm' : mayZ size most = false := by simpa using hm
    have hv := lzwV_no b n size most hm'
    rw [hv]
    clear hv hm
    go_enter Try.func46, Try.ntmps46
    go_wp2_with fail
    refine (newr_no A n cap b hn hmax hz hsmall size most hm' _ hP).mono ?_
    rintro e w1 ⟨g, rfl, ⟨c8, c9, c10, c0⟩, hB⟩
    have HB := Lib.hid hB
    clear hB
    go_wp2_with fail
    go_loopg [] 0 (fun k wr => Hid (wr = w1))
    case atStart => exact Lib.hid rfl
    case round =>
      obtain rfl := hrel.out
      go_wp2_with fail
      refine (done_r g true _ c9).mono ?_
      rintro e w' ⟨rfl, rfl⟩
      go_wp2_with fail
      refine (out_yes g 0 (.slice none 0 0) [] (by simp) _ c9 c8 (World.ownsRow_nil _ _ _ _)).mono ?_
      rintro e w2 ⟨A2, cap2, rfl, hN, hB2⟩
      have c10' := (hB2.cell (p := ⟨g, 10, none⟩) (lt_of_cell c10)).trans c10
      have hN2 : NewB w.heap.size w2 0 A2 cap2 (gz []) := ⟨hN.le, hN.max, hN.nil, hN.byt, (fun a ha => Nat.le_trans HB.out.size (hN.far a ha)), hN.lt, hN.form⟩
      have HN := Lib.hid hN2
      have HB2 := Lib.hid (HB.out.trans (hB2.mono HB.out.size))
      clear hN hB2 hN2 c8 c9 c10 c0
      go_wp2_with fail
      refine (err_r g 1 _ c10').mono ?_
      rintro e w3 ⟨rfl, rfl⟩
      go_wp2
      go_ret2
      exact ⟨A2, cap2, rfl, HN.out, HB2.out⟩
end Go.Proofs.Ytkjlejkcedemlaa

namespace Go.Proofs.Ytkjlejkcedemlaa
set_option maxRecDepth 100000
set_option linter.unusedVariables false
open Go.ChangeShapes Go.WideShapes Go.ChangeAt Go.RowKit

/-- A row of bytes that nothing of X touches. -/
def RowV (w : World) (X : List Nat) (v : Value) (l : List Nat) : Prop :=
  ∃ a c, v = .slice (some a) l.length c ∧ l.length ≤ c ∧ c ≤ maxLen ∧ Byt w (some a) l.length (gz l) ∧ a.block ∉ X ∧ a.block < w.heap.size
theorem RowV.chg {w w' : World} {X X' : List Nat} {v : Value} {l : List Nat} (h : RowV w X v l) (hc : Chg X w w') (hm : More X X' w) : RowV w' X' v l := by
  obtain ⟨a, c, he, h1, h2, hb, hx, hl⟩ := h
  refine ⟨a, c, he, h1, h2, hb.chg hc (fun _ a' h => by cases h; exact hx), fun hk => ?_, Nat.lt_of_lt_of_le hl hc.size⟩
  rcases hm _ hk with h | h
  · exact hx h
  · omega
theorem RowV.of_own {w : World} {base : Nat} {v : Value} {l : List Nat} {X : List Nat} (h : w.ownsRow base 5 1 v l.length (cellsB l)) (hl : 0 < l.length) (hX : ∀ k ∈ X, k < base) : RowV w X v l := by
  obtain ⟨g, c, rfl⟩ := own_some h (by omega)
  obtain ⟨A', c', he, q1, q2, q3, q4⟩ := byt_of_row h
  injection he with e1 e2 e3
  subst e1 e3
  exact ⟨_, _, rfl, q1, q2, q4, fun hk => by have := (h.lt g rfl).1; have := hX _ hk; simp only at this; omega, (h.lt g rfl).2⟩
/-- Where the reference stands, in memory. -/
structure Rz (w0 : World) (gm : Nat) (A : Option Addr) (n cap : Nat) (b : Nat → Nat) (cl sz : Nat) (s : Cz) (v10 v12 v13 : Value) (X : List Nat) (w : World) : Prop where
  rf : Rf gm A n cap b s.p false false w
  rows : ∃ vs : List Value, w.ownsRow (gm + 1) 22 1 v10 s.rows.length vs ∧ ∀ (i : Nat) (v : Value) (l : List Nat), vs[i]? = some v → s.rows[i]? = some l → RowV w X v l
  l0 : s.last = none → v12 = .slice none 0 0
  l1 : ∀ l, s.last = some l → RowV w X v12 l
  out : w.ownsRow (gm + 1) 5 1 v13 s.out.length (cellsB s.out)
  ap : ∀ k, v10.ownBlock = some k → v13.ownBlock ≠ some k
  x0 : gm ∈ X
  x1 : ∀ k, v10.ownBlock = some k → k ∈ X
  x2 : ∀ k, v13.ownBlock = some k → k ∈ X
  xl : ∀ k ∈ X, gm ≤ k ∧ k < w.heap.size
  ab : 0 < n → ∀ a, A = some a → a.block < gm
  g0 : w0.heap.size ≤ gm
  bel : Below w0.heap.size w0 w
  good : GoodC n cl sz s
theorem bel_ofX {w0 w w' : World} {X : List Nat} (h : Below w0.heap.size w0 w) (hc : Chg X w w') (hX : ∀ k ∈ X, w0.heap.size ≤ k) : Below w0.heap.size w0 w' := h.trans (hc.below h.size hX)
section
variable {w0 : World} {gm : Nat} {A : Option Addr} {n cap : Nat} {b : Nat → Nat} {cl sz : Nat} {s : Cz} {v10 v12 v13 : Value} {X : List Nat} {w w' : World}
theorem Rz.new (h : Rz w0 gm A n cap b cl sz s v10 v12 v13 X w) (hb : Below w.heap.size w w') : Rz w0 gm A n cap b cl sz s v10 v12 v13 X w' := by
  have hc : Chg X w w' := Chg.of_below hb
  have hc0 : Chg [] w w' := Chg.of_below hb
  obtain ⟨vs, h1, h2⟩ := h.rows
  exact ⟨h.rf.chg hc0 (by simp) (fun _ _ _ => by simp), ⟨vs, own_chg h1 hc0 (by simp), fun i v l hi hl => (h2 i v l hi hl).chg hc (More.refl _ _)⟩, h.l0, fun l hl => (h.l1 l hl).chg hc (More.refl _ _), own_chg h.out hc0 (by simp), h.ap, h.x0, h.x1, h.x2, fun k hk => ⟨(h.xl k hk).1, Nat.lt_of_lt_of_le (h.xl k hk).2 hb.size⟩, h.ab, h.g0, h.bel.trans (hb.mono h.bel.size), h.good⟩
/-- The reader's own block changes. -/
theorem Rz.take (h : Rz w0 gm A n cap b cl sz s v10 v12 v13 X w) {s' : Cz} (hc : Chg [gm] w w') (hr : Rf gm A n cap b s'.p false false w') (e1 : s'.rows = s.rows) (e2 : s'.last = s.last) (e3 : s'.out = s.out) (hg : GoodC n cl sz s') : Rz w0 gm A n cap b cl sz s' v10 v12 v13 X w' := by
  have hcX : Chg X w w' := hc.mono (by simpa using h.x0)
  obtain ⟨vs, h1, h2⟩ := h.rows
  refine ⟨hr, ⟨vs, by rw [e1]; exact own_chg' h1 hc (by simp), fun i v l hi hl => ?_⟩, fun hn => h.l0 (by rw [← e2]; exact hn), fun l hl => (h.l1 l (by rw [← e2]; exact hl)).chg hcX (More.refl _ _), by rw [e3]; exact own_chg' h.out hc (by simp), h.ap, h.x0, h.x1, h.x2, fun k hk => ⟨(h.xl k hk).1, Nat.lt_of_lt_of_le (h.xl k hk).2 hc.size⟩, h.ab, h.g0, bel_ofX h.bel hc (by simpa using h.g0), hg⟩
  rw [e1] at hl
  exact (h2 i v l hi hl).chg hcX (More.refl _ _)
theorem Rz.reset (h : Rz w0 gm A n cap b cl sz s v10 v12 v13 X w) (hp : s.p + s.wd ≤ 8 * n) (hc : Chg [gm] w w') (hr : Rf gm A n cap b (s.p + s.wd) false false w') : Rz w0 gm A n cap b cl sz (s.reset sz) (.slice none 0 0) (.slice none 0 0) v13 X w' := by
  exact ⟨hr, ⟨[], World.ownsRow_nil _ _ _ _, (fun i v l hi => by simp at hi)⟩, fun _ => rfl, (fun l hl => by cases hl), own_chg' h.out hc (by simp), (fun k hk => by cases hk), h.x0, (fun k hk => by cases hk), h.x2, fun k hk => ⟨(h.xl k hk).1, Nat.lt_of_lt_of_le (h.xl k hk).2 hc.size⟩, h.ab, h.g0, bel_ofX h.bel hc (by simpa using h.g0), h.good.reset hp⟩
/-- The values with a row more. -/
theorem Rz.newOut {v13' : Value} {o' : List Nat} (h : Rz w0 gm A n cap b cl sz s v10 v12 v13 X w) (hg : w.grownBy w' v13.ownBlock) (ho : w'.ownsRow (gm + 1) 5 1 v13' o'.length (cellsB o')) (hat : v13'.ownBlock = v13.ownBlock ∨ v13'.ownBlock = some w.heap.size) (h256 : ∀ v ∈ o', v < 256) :
    ∃ X', Rz w0 gm A n cap b cl sz ⟨s.p, s.wd, s.rows, s.last, o'⟩ v10 v12 v13' X' w' ∧ More X X' w ∧ Chg X w w' := by
  have hc : Chg v13.ownBlock.toList w w' := Chg.grown hg (fun r hr => by rw [hr]; simp)
  have hT : ∀ k ∈ v13.ownBlock.toList, v13.ownBlock = some k := fun k hk => by simpa using hk
  have hTg : ∀ k ∈ v13.ownBlock.toList, gm < k := fun k hk => by have := h.out.lt k (hT k hk); omega
  have hcX : Chg X w w' := hc.mono (fun k hk => h.x2 k (hT k hk))
  have hMo : More X (v13'.ownBlock.toList ++ X) w := fun k hk => by
    have h6 : v13'.ownBlock = some k ∨ k ∈ X := by simpa using hk
    rcases h6 with h6 | h6
    · rcases hat with h5 | h5
      · exact .inl (h.x2 k (h5.symm.trans h6))
      · rw [h5] at h6
        injection h6 with h6
        exact .inr (by omega)
    · exact .inl h6
  have hsz := hc.size
  have hgml := (h.xl gm h.x0).2
  obtain ⟨vs, h1, h2⟩ := h.rows
  refine ⟨v13'.ownBlock.toList ++ X, ⟨h.rf.chg hc (fun hm => by have := hTg _ hm; omega) (fun h0 a hA hm => by have := hTg _ hm; have := h.ab h0 a hA; omega), ⟨vs, own_chg h1 hc (fun k hk hm => h.ap k hk (hT k hm)), fun i v l hi hl => (h2 i v l hi hl).chg hcX hMo⟩, h.l0, fun l hl => (h.l1 l hl).chg hcX hMo, ho, fun k hk e => ?_, by simp [h.x0], fun k hk => by simp [h.x1 k hk], fun k hk => by simp [hk], fun k hk => ?_, h.ab, h.g0, bel_ofX h.bel hcX (fun k hk => Nat.le_trans h.g0 (h.xl k hk).1), ⟨h.good.clv, h.good.sz2, h.good.sz8, h.good.wd1, h.good.wd2, h.good.p, h.good.full, h.good.rows, h.good.last, h.good.none, h256⟩⟩, hMo, hcX⟩
  · rcases hat with h5 | h5
    · exact h.ap k hk (h5.symm.trans e)
    · rw [h5] at e
      injection e with e
      have := h1.lt k hk
      omega
  · have h6 : v13'.ownBlock = some k ∨ k ∈ X := by simpa using hk
    rcases h6 with h6 | h6
    · have := ho.lt k h6
      omega
    · have := h.xl k h6
      omega
/-- A row more. -/
theorem Rz.newRow {v10' v : Value} {r : List Nat} (h : Rz w0 gm A n cap b cl sz s v10 v12 v13 X w) {vs : List Value} (hvs : w.ownsRow (gm + 1) 22 1 v10 s.rows.length vs ∧ ∀ (i : Nat) (v : Value) (l : List Nat), vs[i]? = some v → s.rows[i]? = some l → RowV w X v l) (hg : w.grownBy w' v10.ownBlock) (ho : w'.ownsRow (gm + 1) 22 1 v10' (s.rows.length + 1) (vs ++ [v])) (hat : v10'.ownBlock = v10.ownBlock ∨ v10'.ownBlock = some w.heap.size)
    (hv : RowV w X v r) (hgd : GoodC n cl sz ⟨s.p, s.wd, s.rows ++ [r], s.last, s.out⟩) :
    ∃ X', Rz w0 gm A n cap b cl sz ⟨s.p, s.wd, s.rows ++ [r], s.last, s.out⟩ v10' v12 v13 X' w' ∧ More X X' w ∧ Chg X w w' := by
  have hc : Chg v10.ownBlock.toList w w' := Chg.grown hg (fun r hr => by rw [hr]; simp)
  have hT : ∀ k ∈ v10.ownBlock.toList, v10.ownBlock = some k := fun k hk => by simpa using hk
  obtain ⟨h1, h2⟩ := hvs
  have hTg : ∀ k ∈ v10.ownBlock.toList, gm < k := fun k hk => by have := h1.lt k (hT k hk); omega
  have hcX : Chg X w w' := hc.mono (fun k hk => h.x1 k (hT k hk))
  have hMo : More X (v10'.ownBlock.toList ++ X) w := fun k hk => by
    have h6 : v10'.ownBlock = some k ∨ k ∈ X := by simpa using hk
    rcases h6 with h6 | h6
    · rcases hat with h5 | h5
      · exact .inl (h.x1 k (h5.symm.trans h6))
      · rw [h5] at h6
        injection h6 with h6
        exact .inr (by omega)
    · exact .inl h6
  have hsz := hc.size
  have hgml := (h.xl gm h.x0).2
  have hvl : vs.length = s.rows.length := by have := h1.1; omega
  refine ⟨v10'.ownBlock.toList ++ X, ⟨h.rf.chg hc (fun hm => by have := hTg _ hm; omega) (fun h0 a hA hm => by have := hTg _ hm; have := h.ab h0 a hA; omega), ⟨vs ++ [v], own_len (by simp) ho, fun i v' l hi hl => ?_⟩, h.l0, fun l hl => (h.l1 l hl).chg hcX hMo, own_chg h.out hc (fun k hk hm => h.ap k (hT k hm) hk), fun k hk e => ?_, by simp [h.x0], fun k hk => by simp [hk], fun k hk => by simp [h.x2 k hk], fun k hk => ?_, h.ab, h.g0, bel_ofX h.bel hcX (fun k hk => Nat.le_trans h.g0 (h.xl k hk).1), hgd⟩, hMo, hcX⟩
  · by_cases hlt : i < s.rows.length
    · rw [List.getElem?_append_left (by omega)] at hi
      have hl' : (s.rows ++ [r])[i]? = some l := hl
      rw [List.getElem?_append_left hlt] at hl'
      exact (h2 i v' l hi hl').chg hcX hMo
    · rw [List.getElem?_append_right (by omega)] at hi
      have hl' : (s.rows ++ [r])[i]? = some l := hl
      rw [List.getElem?_append_right (by omega)] at hl'
      have h0 : i - vs.length = 0 := by
        have := (List.getElem?_eq_some_iff.1 hi).1
        simp at this
        omega
      rw [h0] at hi
      rw [show i - s.rows.length = 0 by omega] at hl'
      simp at hi hl'
      subst hi hl'
      exact hv.chg hcX hMo
  · rcases hat with h5 | h5
    · exact h.ap k (h5.symm.trans hk) e
    · rw [h5] at hk
      injection hk with hk
      have := h.out.lt k e
      omega
  · have h6 : v10'.ownBlock = some k ∨ k ∈ X := by simpa using hk
    rcases h6 with h6 | h6
    · have := ho.lt k h6
      omega
    · have := h.xl k h6
      omega
end
theorem Rz.fin {w0 : World} {gm : Nat} {A : Option Addr} {n cap : Nat} {b : Nat → Nat} {cl sz : Nat} {s : Cz} {v10 v12 v13 : Value} {X : List Nat} {w : World} (h : Rz w0 gm A n cap b cl sz s v10 v12 v13 X w) {v : Value} {row : List Nat} (hv : RowV w X v row) {wd : Nat} (hg : GoodC n cl sz ⟨s.p, wd, s.rows, some row, s.out⟩) :
    Rz w0 gm A n cap b cl sz ⟨s.p, wd, s.rows, some row, s.out⟩ v10 v v13 X w :=
  ⟨h.rf, h.rows, (fun e => by cases e), (fun l e => by injection e with e; subst e; exact hv), h.out, h.ap, h.x0, h.x1, h.x2, h.xl, h.ab, h.g0, h.bel, hg⟩
theorem newB_of_own {B : Nat} {w : World} {v : Value} {o : List Nat} (h : w.ownsRow B 5 1 v o.length (cellsB o)) : ∃ A cap, v = .slice A o.length cap ∧ NewB B w o.length A cap (gz o) := by
  obtain ⟨A', c', he, q1, q2, q3, q4⟩ := byt_of_row h
  subst he
  refine ⟨A', c', rfl, q1, q2, q3, q4, fun a ha => ?_, fun a ha => ?_, fun a ha => ?_⟩
  · subst ha; exact (h.lt a.block rfl).1
  · subst ha; exact (h.lt a.block rfl).2
  · subst ha
    rcases h.2 with ⟨h0, _⟩ | ⟨g, cap, cur, he, _⟩
    · cases h0
    · cases he; rfl
end Go.Proofs.Ytkjlejkcedemlaa

namespace Go.Proofs.Ytkjlejkcedemlaa
set_option maxRecDepth 100000
set_option linter.unusedVariables false
open Go.ChangeShapes Go.WideShapes Go.ChangeAt Go.RowKit

theorem cells8_gz (l : List Nat) : cells8 l.length (gz l) = cellsB l := by
  apply List.ext_getElem?
  intro j
  by_cases h : j < l.length
  · rw [cells8_get _ _ _ h]
    simp [cellsB, gz, h]
  · rw [List.getElem?_eq_none (by simp [cells8]; omega), List.getElem?_eq_none (by rw [cellsB_len]; omega)]
theorem cellsB_one (l : List Nat) : ∀ u ∈ cellsB l, u.oneCell' = true := by
  intro u hu
  obtain ⟨j, _, rfl⟩ := List.mem_map.1 hu
  rfl
theorem own_le2 {w : World} {b b' : Nat} (h : b' ≤ b) {e : TypeId} {size n : Nat} {v : Value} {xs : List Value} (ho : w.ownsRow b e size v n xs) : w.ownsRow b' e size v n xs := by
  obtain ⟨h1, h2⟩ := ho
  refine ⟨h1, ?_⟩
  rcases h2 with h0 | ⟨g, cap, cur, rfl, hB, hr⟩
  · exact .inl h0
  · exact .inr ⟨g, cap, cur, rfl, by omega, hr⟩
theorem row_news {W : World} {a : Addr} {l : List Nat} (h : Byt W (some a) l.length (gz l)) : 0 < l.length → ∃ b off, some a = some ⟨b, off, none⟩ ∧ ∀ j u, (cellsB l)[j]? = some u → W.cell? ⟨b, off + j, none⟩ = some u := fun hn => by
  have := byt_news h hn
  rwa [cells8_gz] at this
/-- A row copied to a row of one's own. -/
theorem app_copy {W : World} {X : List Nat} {v : Value} {l : List Nat} (h : RowV W X v l) (hl : l.length ≤ 5000) :
    ∃ v' W1, (Builtin.append_ #[22, 22] 22 #[.slice none 0 0, v]).run Try.prog W = .ok v' W1 ∧ W1.ownsRow W.heap.size 5 1 v' l.length (cellsB l) ∧ Below W.heap.size W W1 := by
  obtain ⟨i0, hi, hz0, hz1, hz2⟩ := info_parts info8
  obtain ⟨a, c, rfl, q1, q2, hb, hx, hlt⟩ := h
  obtain ⟨v', W1, hr, ho, hg, hat⟩ := run_app (P := Try.prog) (w := W) W.heap.size 22 22 5 i0 (.int .u8 0) 1 1 Try.underlying22 hi hz0 hz1 hz2 rfl (by omega) (.slice none 0 0) 0 [] (World.ownsRow_nil _ _ _ _)
    (some a) l.length c (cellsB l) (by simp) (by rw [cellsB_len]; omega) (row_news hb) (cellsB_one l) (by unfold maxLen; omega) (by omega) (Nat.le_refl _)
  rw [Nat.zero_add, List.nil_append] at ho
  refine ⟨v', W1, hr, ho, ⟨hg.os, hg.tape, hg.output, hg.size, fun k hk => hg.block k hk (fun e => by cases e)⟩⟩
/-- A byte behind a row of one's own. -/
theorem app_byte {W : World} {base : Nat} {v : Value} {l : List Nat} {x B : Nat} (h : W.ownsRow base 5 1 v l.length (cellsB l)) (hx : W.cell? ⟨B, 0, none⟩ = some (.int .u8 (x : Nat))) (hl : l.length ≤ 5000) (hb : base ≤ W.heap.size) :
    ∃ v' W1, (Builtin.append_ #[22, 22] 22 #[v, .slice (some ⟨B, 0, none⟩) 1 1]).run Try.prog W = .ok v' W1 ∧ W1.ownsRow base 5 1 v' (l ++ [x]).length (cellsB (l ++ [x])) ∧ W.grownBy W1 v.ownBlock := by
  obtain ⟨i0, hi, hz0, hz1, hz2⟩ := info_parts info8
  obtain ⟨v', W1, hr, ho, hg, hat⟩ := run_app (P := Try.prog) (w := W) base 22 22 5 i0 (.int .u8 0) 1 1 Try.underlying22 hi hz0 hz1 hz2 rfl (by omega) v l.length (cellsB l) h
    (some ⟨B, 0, none⟩) 1 1 [.int .u8 (x : Nat)] (by simp) rfl (fun _ => ⟨B, 0, rfl, fun j u hj => by
      match j, hj with
      | 0, hj => simp at hj; subst hj; exact hx
      | j + 1, hj => simp at hj⟩) (by intro u hu; simp at hu; subst hu; rfl) (by unfold maxLen; omega) (by omega) hb
  rw [← cellsB_snoc] at ho
  exact ⟨v', W1, hr, own_len (by simp) ho, hg⟩
/-- 'append(append(nil, row...), x)', the copy first. -/
theorem app_two {W : World} {X : List Nat} {v : Value} {l : List Nat} {x : Nat} (h : RowV W X v l) (hl : l.length ≤ 5000) :
    ∃ v1 W1 v2 W2, (Builtin.append_ #[22, 22] 22 #[.slice none 0 0, v]).run Try.prog W = .ok v1 W1 ∧ Below W.heap.size W W1 ∧
      (Builtin.append_ #[22, 22] 22 #[v1, .slice (some ⟨W1.heap.size, 0, none⟩) 1 1]).run Try.prog (W1.alloc (.cells #[.int .u8 (x : Nat)] 5)) = .ok v2 W2 ∧
      W2.ownsRow W.heap.size 5 1 v2 (l ++ [x]).length (cellsB (l ++ [x])) ∧ Below W.heap.size W W2 := by
  obtain ⟨v1, W1, r1, o1, b1⟩ := app_copy h hl
  obtain ⟨v2, W2, r2, o2, g2⟩ := app_byte (x := x) (o1.alloc (.cells #[.int .u8 (x : Nat)] 5)) (hp_cell (j := 0) (hp_new0 W1 _) rfl) hl (by have := b1.size; simp; omega)
  exact ⟨v1, W1, v2, W2, r1, b1, r2, o2, bel_grown (b1.alloc b1.size _) g2 (fun r hr => (o1.lt r hr).1) (by have := b1.size; simp; omega)⟩
/-- The same, the byte's own block first. -/
theorem app_two' {W : World} {X : List Nat} {v : Value} {l : List Nat} {x : Nat} (h : RowV W X v l) (hX : ∀ k ∈ X, k < W.heap.size) (hl : l.length ≤ 5000) :
    ∃ v1 W1 v2 W2, (Builtin.append_ #[22, 22] 22 #[.slice none 0 0, v]).run Try.prog (W.alloc (.cells #[.int .u8 (x : Nat)] 5)).drew = .ok v1 W1 ∧ Below W.heap.size W W1 ∧
      (Builtin.append_ #[22, 22] 22 #[v1, .slice (some ⟨W.heap.size, 0, none⟩) 1 1]).run Try.prog W1 = .ok v2 W2 ∧
      W2.ownsRow W.heap.size 5 1 v2 (l ++ [x]).length (cellsB (l ++ [x])) ∧ Below W.heap.size W W2 := by
  have hbA : Below W.heap.size W (W.alloc (.cells #[.int .u8 (x : Nat)] 5)).drew := ((Below.refl _ W).alloc (Nat.le_refl _) _).drew
  have h' := h.chg (Chg.of_below hbA) (More.refl X W)
  obtain ⟨v1, W1, r1, o1, b1⟩ := app_copy h' hl
  have hsz : (W.alloc (.cells #[.int .u8 (x : Nat)] 5)).drew.heap.size = W.heap.size + 1 := by simp
  rw [hsz] at o1 b1
  have hx1 : W1.cell? ⟨W.heap.size, 0, none⟩ = some (.int .u8 (x : Nat)) := (b1.cell (p := ⟨W.heap.size, 0, none⟩) (by show W.heap.size < W.heap.size + 1; omega)).trans (hp_cell (W := W.alloc (.cells #[.int .u8 (x : Nat)] 5)) (j := 0) (hp_new0 W _) rfl)
  have hs1 := b1.size
  rw [hsz] at hs1
  obtain ⟨v2, W2, r2, o2, g2⟩ := app_byte (x := x) o1 hx1 hl hs1
  have hB1 : Below W.heap.size W W1 := hbA.trans (b1.mono (by omega))
  exact ⟨v1, W1, v2, W2, r1, hB1, r2, own_le2 (by omega) o2, bel_grown hB1 g2 (fun r hr => by have := (o1.lt r hr).1; omega) (by omega)⟩
end Go.Proofs.Ytkjlejkcedemlaa
