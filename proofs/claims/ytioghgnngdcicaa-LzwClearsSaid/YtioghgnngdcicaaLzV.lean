/- A reader of GIF's codes: what is told, and Step. -/
import Derived.Test.YtioghgnngdcicaaLzR
namespace Go.Proofs.Ytioghgnngdcicaa
set_option linter.unusedVariables false
open Go.ChangeShapes Go.WideShapes Go.ChangeAt Go.RowKit

set_option maxRecDepth 100000 in
set_option maxHeartbeats 400000 in
theorem done_r (g : Nat) (en : Bool) (w : World) (h : w.cell? ⟨g, 9, none⟩ = some (.bool en)) :
    Calls Try.prog 15 #[.pointer (some ⟨g, 0, none⟩)] w fun e w' => e = .returned (.bool en) ∧ w = w' := by
  go_enter Try.func15, Try.ntmps15
  go_wp2
  go_ret
  exact ⟨rfl, rfl⟩
set_option maxRecDepth 100000 in
set_option maxHeartbeats 400000 in
theorem err_r (g : Nat) (er : Int) (w : World) (h : w.cell? ⟨g, 10, none⟩ = some (.int .i64 er)) :
    Calls Try.prog 18 #[.pointer (some ⟨g, 0, none⟩)] w fun e w' => e = .returned (.int .i64 er) ∧ w = w' := by
  go_enter Try.func18, Try.ntmps18
  go_wp2
  go_ret
  exact ⟨rfl, rfl⟩
set_option maxRecDepth 100000 in
set_option maxHeartbeats 400000 in
theorem out_no (g : Nat) (w : World) (h : w.cell? ⟨g, 9, none⟩ = some (.bool false)) :
    Calls Try.prog 17 #[.pointer (some ⟨g, 0, none⟩)] w fun e w' => e = .returned (.slice none 0 0) ∧ w = w' := by
  go_enter Try.func17, Try.ntmps17
  go_wp2_with (first | (go_at_call 15; refine (done_r g false _ h).mono ?_; rintro e w' ⟨rfl, rfl⟩))
  go_ret
  exact ⟨rfl, rfl⟩
set_option maxRecDepth 100000 in
set_option maxHeartbeats 400000 in
theorem out_yes (g base : Nat) (vo : Value) (o : List Nat) (ho : o.length ≤ 1000000) (w : World) (h : w.cell? ⟨g, 9, none⟩ = some (.bool true)) (h8 : w.cell? ⟨g, 8, none⟩ = some vo) (hr : w.ownsRow base 5 1 vo o.length (cellsB o)) :
    Calls Try.prog 17 #[.pointer (some ⟨g, 0, none⟩)] w fun e w' => ∃ A' cap', e = .returned (.slice A' o.length cap') ∧ NewB w.heap.size w' o.length A' cap' (gz o) ∧ Below w.heap.size w w' := by
  obtain ⟨A, cap, rfl, q1, q2, q3, q4⟩ := byt_of_row hr
  go_enter Try.func17, Try.ntmps17
  go_wp2_with (first | (go_at_call 15; refine (done_r g true _ h).mono ?_; rintro e w' ⟨rfl, rfl⟩))
  refine (clone_prog A o.length cap (gz o) q1 q2 q3 ho _ q4).mono ?_
  rintro e w1 ⟨A', cap', rfl, hN, hB⟩
  have HN := Lib.hid hN
  have HB := Lib.hid hB
  clear hN hB
  go_wp2
  go_ret
  exact ⟨A', cap', rfl, HN.out, HB.out⟩
/-- How far a reader is from its end. -/
def kz (n : Nat) (s : Cz) (wt : List Nat) (en : Bool) : Nat := if en = true then 0 else mz n s wt false
/-- A reader on its way to r, or there. -/
def LzF (g gl : Nat) (A : Option Addr) (n cap : Nat) (b : Nat → Nat) (most sz cl : Nat) (r : List Nat × Nat) (k ol : Nat) (en : Bool) (S : List Nat) (w : World) : Prop :=
  ∃ s wt er, LzS g gl A n cap b most sz cl s wt en er S w ∧ s.out.length ≤ most ∧ kz n s wt en = k ∧ s.out.length = ol ∧ (en = true → r.1 = s.out ∧ er = ((r.2 : Nat) : Int)) ∧ (en = false → er = 0 ∧ Gon b n cl sz most r s wt)
theorem LzMem.setE {g gl : Nat} {A : Option Addr} {n cap : Nat} {b : Nat → Nat} {p : Nat} {vt vw vo : Value} {t : List (Nat × Nat)} {wt o : List Nat} {S : List Nat} {w : World} (h : LzMem g gl A n cap b p vt vw vo t wt o S w) {E : Nat} {x : Int} {T : TypeId} (hE : w.heap[E]? = some (.cells #[.int .i64 x] T (0, 0))) (hS : E ∉ S) (hg : g < E) (v : Value) : LzMem g gl A n cap b p vt vw vo t wt o S (w.setCell ⟨E, 0, none⟩ v) := by
  have hc : Chg [E] w (w.setCell ⟨E, 0, none⟩ v) := (Chg.refl _ w).set (.inl (by simp)) _ _
  have hgl := h.glg
  obtain ⟨Aw, c, he, h1, h2, hz, hb, ha⟩ := h.wts
  refine ⟨h.rd.chg hc (by simp; omega) (fun _ a hA hm => by have := h.ab a hA; simp at hm; omega), own_chg h.tab hc (fun k hk hm => hS (by simp at hm; rw [← hm]; exact h.s3 k hk)), own_chg h.out hc (fun k hk hm => hS (by simp at hm; rw [← hm]; exact h.s4 k hk)), ⟨Aw, c, he, h1, h2, hz, fun hl => ?_, fun a hA => ?_⟩, h.ap, h.glg, h.ab, Nat.lt_of_lt_of_le h.gs hc.size, h.s1, h.s2, h.s3, h.s4, fun k hk => Nat.lt_of_lt_of_le (h.sl k hk) hc.size⟩
  · obtain ⟨bk, off, rfl, hlt, hcell⟩ := hb hl
    have hne : bk ≠ E := by
      rintro rfl
      have h0 := hcell 0 hl
      unfold World.cell? at h0
      rw [hE] at h0
      cases off with
      | zero => simp at h0
      | succ q => simp at h0
    refine ⟨bk, off, rfl, Nat.lt_of_lt_of_le hlt hc.size, fun j hj => ?_⟩
    rw [← hcell j hj]
    exact World.cell?_setCell_other _ _ _ _ (fun e => hne (by have := congrArg Addr.block e; exact this.symm))
  · obtain ⟨r1, r2, r3, r4⟩ := ha a hA
    exact ⟨r1, Nat.lt_of_lt_of_le r2 hc.size, r3, r4⟩
theorem LzS.setE {g gl : Nat} {A : Option Addr} {n cap : Nat} {b : Nat → Nat} {most sz cl : Nat} {s : Cz} {wt : List Nat} {en : Bool} {er : Int} {S : List Nat} {w : World} (h : LzS g gl A n cap b most sz cl s wt en er S w) {E : Nat} {x : Int} {T : TypeId} (hE : w.heap[E]? = some (.cells #[.int .i64 x] T (0, 0))) (hS : E ∉ S) (hg : g < E) (v : Value) : LzS g gl A n cap b most sz cl s wt en er S (w.setCell ⟨E, 0, none⟩ v) := by
  obtain ⟨⟨vt, vw, vo, lc, t, hb, hm, hp⟩, h2⟩ := h
  exact ⟨⟨vt, vw, vo, lc, t, (Below.heap_setCell w _ v g (by show g ≠ E; omega)).trans hb, hm.setE hE hS hg v, hp⟩, h2⟩
/-- The end by an error: nothing is out. -/
theorem LzS.fail {g gl : Nat} {A : Option Addr} {n cap : Nat} {b : Nat → Nat} {most sz cl : Nat} {s : Cz} {wt : List Nat} {S : List Nat} {w : World} (h : LzS g gl A n cap b most sz cl s wt false 0 S w) (q : Int) {w' : World} (hc : Chg [g] w w')
    (hb : ∀ vt vw vo lc, LzBox g gl most sz s.wd (cl + 2 + s.rows.length) vt lc vw vo false 0 w → LzBox g gl most sz s.wd (cl + 2 + s.rows.length) vt lc vw (.slice none 0 0) true q w') :
    LzS g gl A n cap b most sz cl ⟨s.p, s.wd, s.rows, s.last, []⟩ wt true q S w' := by
  obtain ⟨⟨vt, vw, vo, lc, t, hx, hm, hp⟩, h2⟩ := h
  have hg := hp.good
  exact ⟨⟨vt, vw, .slice none 0 0, lc, t, hb _ _ _ _ hx, hm.nilOut.setG hc (by simp), ⟨⟨hg.clv, hg.sz2, hg.sz8, hg.wd1, hg.wd2, hg.p, hg.full, hg.rows, hg.last, hg.none, by simp⟩, hp.tb, hp.l0, hp.l1⟩⟩, h2⟩
theorem ent_step (a b c : Value) : EntersL 33 #[a, b, c] := fun W => by kernel_rfl
set_option maxRecDepth 100000 in
set_option maxHeartbeats 2000000 in
theorem step_idle (g gl : Nat) (A : Option Addr) (n cap : Nat) (b : Nat → Nat) (most sz cl : Nat) (r : List Nat × Nat) (k ol : Nat) (en : Bool) (S : List Nat) (N : Int) (hN : en = true ∨ N < 1) (w : World) (h : LzF g gl A n cap b most sz cl r k ol en S w) :
    Calls Try.prog 16 #[.pointer (some ⟨g, 0, none⟩), .int .i64 N] w fun e w' => e = .returned (.bool en) ∧ Below w.heap.size w w' := by
  obtain ⟨s, wt, er, ⟨⟨vt, vw, vo, lc, t, hb, hm, hp⟩, _⟩, _⟩ := h
  have hb' : w.heap[g]? = _ := hb
  have c0 := hp_cell (j := 0) hb' rfl
  have c9 := hp_cell (j := 9) hb' rfl
  have hgs := hm.gs
  clear hb hb' hm hp
  go_enter Try.func16, Try.ntmps16
  by_cases h1 : N < 1
  · have d1 : decide (N < 1) = true := by simp; omega
    go_wp2
    go_ret
    exact ⟨rfl, ((Below.refl _ w).alloc (Nat.le_refl _) _).alloc (by simp) _⟩
  · obtain rfl : en = true := by
      rcases hN with h | h
      · exact h
      · exact absurd h h1
    have d1 : decide (N < 1) = false := by simp; omega
    go_wp2
    go_ret
    exact ⟨rfl, ((Below.refl _ w).alloc (Nat.le_refl _) _).alloc (by simp) _⟩
set_option maxRecDepth 100000 in
set_option maxHeartbeats 2000000 in
theorem step_any (g gl : Nat) (A : Option Addr) (n cap : Nat) (b : Nat → Nat) (most sz cl : Nat) (r : List Nat × Nat) (hbt : ∀ i, b i < 256) (hn : n ≤ 1000000) (hmost : most ≤ 1000000) (k ol : Nat) (S : List Nat) (N : Int) (hN : 1 ≤ N) (w : World) (h : LzF g gl A n cap b most sz cl r k ol false S w) :
    Calls Try.prog 16 #[.pointer (some ⟨g, 0, none⟩), .int .i64 N] w fun e w' => ∃ S' k' ol' en', e = .returned (.bool en') ∧ LzF g gl A n cap b most sz cl r k' ol' en' S' w' ∧ Chg S w w' ∧ More S S' w ∧ k' < k ∧ (en' = false → (ol : Int) + N ≤ ol') := by
  obtain ⟨s, wt, er, hLS, hom, hkz, hol, _, he2⟩ := h
  obtain ⟨rfl, hgon⟩ := he2 rfl
  clear he2
  subst hol
  have hLS2 := hLS
  obtain ⟨⟨vt, vw, vo, lc, t, hb, hm, hp⟩, _⟩ := hLS2
  obtain ⟨_, Ao, co, rfl, q1, q2, _⟩ := Sl.of_own hm.out
  have hb' : w.heap[g]? = _ := hb
  have hkz' : mz n s wt false = k := hkz
  have c0 := hp_cell (j := 0) hb' rfl
  have c8 := hp_cell (j := 8) hb' rfl
  have c9 := hp_cell (j := 9) hb' rfl
  have hgs := hm.gs
  have hsl := hm.sl
  have hgS0 := hm.s1
  have hk0 : 0 < k := by rw [← hkz']; unfold mz; simp
  have d1 : decide (N < 1) = false := by simp; omega
  have HLS := Lib.hid hLS
  have HSL := Lib.hid hsl
  clear hb hb' hm hp hLS hkz hsl q1 q2
  go_enter Try.func16, Try.ntmps16
  have hmf : ∀ (fn : Fn) (first cap : Array Value) (w : World), (Instr.makeFunc fn first cap).run Try.prog w = .ok (.func fn first cap) w := fun _ _ _ _ => rfl
  go_wp2_with fail
  obtain ⟨wB, hwB⟩ : ∃ wB, wB = ((w.alloc (.cells #[.pointer (some ⟨g, 0, none⟩)] 32)).alloc (.cells #[.int .i64 N] 3)).alloc (.cells #[.int .i64 (s.out.length : Nat)] 3) := ⟨_, rfl⟩
  have hBl : Below w.heap.size w wB := by rw [hwB]; exact (((Below.refl _ w).alloc (Nat.le_refl _) _).alloc (by simp) _).alloc (by simp; omega) _
  have hsB : wB.heap.size = w.heap.size + 3 := by rw [hwB]; simp
  have b1 : wB.heap[w.heap.size]? = some (.cells #[.pointer (some ⟨g, 0, none⟩)] 32 (0, 0)) := by rw [hwB]; exact hp_alloc _ (hp_alloc _ (hp_new0 w _))
  have b2 : wB.heap[w.heap.size + 1]? = some (.cells #[.int .i64 N] 3 (0, 0)) := by
    rw [hwB]
    have := hp_new0 (w.alloc (.cells #[.pointer (some ⟨g, 0, none⟩)] 32)) (.cells #[.int .i64 N] 3)
    rw [World.size_alloc] at this
    exact hp_alloc _ this
  have b3 : wB.heap[w.heap.size + 1 + 1]? = some (.cells #[.int .i64 (s.out.length : Nat)] 3 (0, 0)) := by
    rw [hwB]
    have := hp_new0 ((w.alloc (.cells #[.pointer (some ⟨g, 0, none⟩)] 32)).alloc (.cells #[.int .i64 N] 3)) (.cells #[.int .i64 (s.out.length : Nat)] 3)
    rw [World.size_alloc, World.size_alloc] at this
    exact this
  rw [← hwB]
  clear hwB
  have hCB : Chg S w wB := Chg.of_below hBl
  have hStB : StB g w.heap.size (w.heap.size + 1 + 1) (w.heap.size + 1) s.out.length N S (wB.alloc (.cells #[.int .i64 0] 24)) := ⟨hp_alloc _ b1, hp_alloc _ b3, hp_alloc _ b2, fun h => by have := HSL.out _ h; omega, fun h => by have := HSL.out _ h; omega, fun h => by have := HSL.out _ h; omega⟩
  have hLB := (HLS.out.below hBl).below ((Below.refl _ wB).alloc (Nat.le_refl _) (.cells #[.int .i64 0] 24))
  refine (tried_any r 33 _ (ent_step _ _ _) wB (StY g gl A n cap b most sz cl r s.out.length N S (wB.alloc (.cells #[.int .i64 0] 24)) k) (StN g gl A n cap b most sz cl S (wB.alloc (.cells #[.int .i64 0] 24))) ?_).mono ?_
  · refine (step_loop g gl A n cap b most sz cl r hbt hn hmost w.heap.size (w.heap.size + 1 + 1) (w.heap.size + 1) N hN s wt S hom hgon _ hStB hLB).mono ?_
    intro e w' hP
    rw [hkz'] at hP
    have hE : ∀ w', Chg S (wB.alloc (.cells #[.int .i64 0] 24)) w' → w'.heap[wB.heap.size]? = some (.cells #[.int .i64 0] 24 (0, 0)) := fun w' hc => hp_chg (hp_new0 wB _) hc (fun h => by have := HSL.out _ h; omega)
    rcases hP with ⟨h1, h2⟩ | ⟨h1, h2⟩
    · refine ⟨?_, .inl ⟨h1, h2⟩⟩
      obtain ⟨S2, s2, wt2, en2, _, _, hC, _⟩ := h2
      exact hE _ hC
    · refine ⟨?_, .inr ⟨h1, h2⟩⟩
      obtain ⟨S2, s2, wt2, _, hC, _⟩ := h2
      exact hE _ hC
  rintro e w' ⟨q, w1, rfl, hE, hw', hd⟩
  have HCB := Lib.hid hCB
  clear hLB hStB hCB b2 b3
  have hpres : ∀ s wt en er S2, wB.heap.size ∉ S2 → LzS g gl A n cap b most sz cl s wt en er S2 w1 → LzS g gl A n cap b most sz cl s wt en er S2 w' := fun s wt en er S2 hS2 hx => by
    have h9 := hx.setE hE hS2 (by omega) (.int .i64 (q : Nat))
    rcases hw' with rfl | rfl
    · exact h9
    · exact h9.below ((Below.refl _ _).alloc (Nat.le_refl _) _)
  have hCE : Chg [wB.heap.size] w1 w' := by
    rcases hw' with rfl | rfl
    · exact (Chg.refl _ w1).set (.inl (by simp)) _ _
    · exact ((Chg.refl _ w1).set (.inl (by simp)) _ _).alloc _
  clear hw'
  rcases hd with ⟨rfl, S2, s2, wt2, en2, hz, hL, hC, hM, hh1, hh2, hh3, hh4⟩ | ⟨hq, rfl, S2, s2, wt2, hL, hC, hM⟩
  · have hES : wB.heap.size ∉ S2 := fun hm => by
      rcases hM _ hm with h | h
      · have := HSL.out _ h; omega
      · have h8 : wB.heap.size + 1 ≤ wB.heap.size := by simpa using h
        omega
    have hLF := hpres _ _ _ _ _ hES hL
    have hbr := hp_chg (hp_chg (hp_alloc (.cells #[.int .i64 0] 24) b1) hC (fun h => by have := HSL.out _ h; omega)) hCE (by simp; omega)
    have cbr := hp_cell (j := 0) hbr rfl
    have hLF2 := hLF
    obtain ⟨⟨vt2, vw2, vo2, lc2, t2, hb2, hm2, hp2⟩, _⟩ := hLF2
    have e9 := hp_cell (j := 9) hb2 rfl
    have hCh : Chg S w w' := ((HCB.out.alloc (.cells #[.int .i64 0] 24)).trans hC).trans2 hCE (fun x hx => by simp at hx; omega)
    have hMo : More S S2 w := fun x hx => by
      rcases hM x hx with h | h
      · exact .inl h
      · exact .inr (by have h8 : wB.heap.size + 1 ≤ x := by simpa using h
                       omega)
    have hkk : kz n s2 wt2 en2 < k := by
      unfold kz
      cases en2
      · simpa using hz
      · simpa using hk0
    have HLF := Lib.hid hLF
    have HCh := Lib.hid hCh
    have HMo := Lib.hid hMo
    have H1 := Lib.hid hh1
    have H2 := Lib.hid hh2
    have H3 := Lib.hid hh3
    have H4 := Lib.hid hh4
    have HK := Lib.hid hkk
    clear hLF hCh hMo hbr hb2 hm2 hp2 hpres hE hL hC hM hh1 hh2 hh3 hh4 hkk hz hgon hkz' b1 c0 c8 c9 hBl hCE
    go_wp2
    go_ret
    refine ⟨S2, _, _, en2, rfl, ⟨s2, wt2, 0, HLF.out, H4.out, rfl, rfl, (fun h => by rw [H1.out h]; exact ⟨rfl, rfl⟩), (fun h => ⟨rfl, (H2.out h).1⟩)⟩, HCh.out, HMo.out, HK.out, (fun h => by have := (H2.out h).2; have := H3.out; omega)⟩
  · have hES : wB.heap.size ∉ S2 := fun hm => by
      rcases hM _ hm with h | h
      · have := HSL.out _ h; omega
      · have h8 : wB.heap.size + 1 ≤ wB.heap.size := by simpa using h
        omega
    have hLF := hpres _ _ _ _ _ hES hL
    have hbr := hp_chg (hp_chg (hp_alloc (.cells #[.int .i64 0] 24) b1) hC (fun h => by have := HSL.out _ h; omega)) hCE (by simp; omega)
    have cbr := hp_cell (j := 0) hbr rfl
    have hLF2 := hLF
    obtain ⟨⟨vt2, vw2, vo2, lc2, t2, hb2, hm2, hp2⟩, _⟩ := hLF2
    obtain ⟨_, Ao2, co2, rfl, _, _, _⟩ := Sl.of_own hm2.out
    have e8 := hp_cell (j := 8) hb2 rfl
    have e9 := hp_cell (j := 9) hb2 rfl
    have e10 := hp_cell (j := 10) hb2 rfl
    have ef := fun j => hp_froz hb2 j
    have hCh : Chg S w w' := ((HCB.out.alloc (.cells #[.int .i64 0] 24)).trans hC).trans2 hCE (fun x hx => by simp at hx; omega)
    have hMo : More S S2 w := fun x hx => by
      rcases hM x hx with h | h
      · exact .inl h
      · exact .inr (by have h8 : wB.heap.size + 1 ≤ x := by simpa using h
                       omega)
    have hgS := hm2.s1
    have hq0 : ((q : Int) == 0) = false := by rw [beq_eq_false_iff_ne]; omega
    have hq1 : ((q : Int) != 0) = true := by rw [bne_iff_ne]; omega
    have hne : ¬ g = w.heap.size := by omega
    have HLF := Lib.hid hLF
    have HCh := Lib.hid hCh
    have HMo := Lib.hid hMo
    clear hLF hCh hMo hbr hb2 hm2 hp2 hpres hE hL hC hM hgon hkz' b1 c0 c8 c9 hBl hCE
    go_wp2_with fail
    go_region
    all_goals
      go_wp2
      go_ret
      have hc3 : Chg [g] w' ((((w'.setCell ⟨g, 9, none⟩ (.bool true)).setCell ⟨g, 10, none⟩ (.int .i64 (q : Nat))).setCell ⟨g, 8, none⟩ (.slice none 0 0)).drew) := ((((Chg.refl _ w').set (.inl (by simp)) _ _).set (.inl (by simp)) _ _).set (.inl (by simp)) _ _).drew
      refine ⟨S2, _, _, true, rfl, ⟨_, wt2, (q : Nat), HLF.out.fail (q : Nat) hc3 (fun vt vw vo lc h => heap_set (heap_set (heap_set h))), by simp, rfl, rfl, (fun _ => ⟨rfl, rfl⟩), (fun h => by cases h)⟩, HCh.out.trans (hc3.mono (by simpa using hgS0)), HMo.out, by simpa [kz] using hk0, (fun h => by cases h)⟩
end Go.Proofs.Ytioghgnngdcicaa
