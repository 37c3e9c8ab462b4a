/- A reader of GIF's codes: Step. -/
import Derived.Test.YtioghgnngdcicaaLzT
import Derived.Deep.LoopGhost
namespace Go.Proofs.Ytioghgnngdcicaa
set_option linter.unusedVariables false
open Go.ChangeShapes Go.WideShapes Go.ChangeAt Go.RowKit

/-- Step's three letters, boxed. -/
structure StB (g BR BW BN was : Nat) (N : Int) (S : List Nat) (w : World) : Prop where
  xr : w.heap[BR]? = some (.cells #[.pointer (some ⟨g, 0, none⟩)] 32 (0, 0))
  xw : w.heap[BW]? = some (.cells #[.int .i64 (was : Nat)] 3 (0, 0))
  xn : w.heap[BN]? = some (.cells #[.int .i64 N] 3 (0, 0))
  out : BR ∉ S ∧ BW ∉ S ∧ BN ∉ S
theorem StB.chg {g BR BW BN was : Nat} {N : Int} {S S' : List Nat} {w w' : World} (h : StB g BR BW BN was N S w) (hc : Chg S w w') (hm : More S S' w) : StB g BR BW BN was N S' w' :=
  ⟨hp_chg h.xr hc h.out.1, hp_chg h.xw hc h.out.2.1, hp_chg h.xn hc h.out.2.2, fun hk => by rcases hm _ hk with h1 | h1; exact h.out.1 h1; have := lt_heap h.xr; omega, fun hk => by rcases hm _ hk with h1 | h1; exact h.out.2.1 h1; have := lt_heap h.xw; omega, fun hk => by rcases hm _ hk with h1 | h1; exact h.out.2.2 h1; have := lt_heap h.xn; omega⟩
/-- What a round of Step has. -/
def StR (g gl : Nat) (A : Option Addr) (n cap : Nat) (b : Nat → Nat) (most sz cl : Nat) (r : List Nat × Nat) (BR BW BN was : Nat) (N : Int) (S0 : List Nat) (w0 : World) (k0 : Nat) (k : Nat) (wr : World) : Prop :=
  ∃ S s wt en, k = mz n s wt en ∧ (k < k0 ∨ (k = k0 ∧ en = false ∧ s.out.length = was)) ∧ StB g BR BW BN was N S wr ∧ LzS g gl A n cap b most sz cl s wt en 0 S wr ∧ Chg S0 w0 wr ∧ More S0 S w0 ∧ (en = true → r = (s.out, 0)) ∧ (en = false → Gon b n cl sz most r s wt) ∧ was ≤ s.out.length ∧ s.out.length ≤ most
/-- What Step's closure leaves where nothing broke. -/
def StY (g gl : Nat) (A : Option Addr) (n cap : Nat) (b : Nat → Nat) (most sz cl : Nat) (r : List Nat × Nat) (was : Nat) (N : Int) (S0 : List Nat) (w0 : World) (k0 : Nat) (w : World) : Prop :=
  ∃ S s wt en, mz n s wt en < k0 ∧ LzS g gl A n cap b most sz cl s wt en 0 S w ∧ Chg S0 w0 w ∧ More S0 S w0 ∧ (en = true → r = (s.out, 0)) ∧ (en = false → Gon b n cl sz most r s wt ∧ N ≤ (s.out.length : Int) - was) ∧ was ≤ s.out.length ∧ s.out.length ≤ most
/-- What it leaves where something broke. -/
def StN (g gl : Nat) (A : Option Addr) (n cap : Nat) (b : Nat → Nat) (most sz cl : Nat) (S0 : List Nat) (w0 : World) (w : World) : Prop :=
  ∃ S s wt, LzS g gl A n cap b most sz cl s wt false 0 S w ∧ Chg S0 w0 w ∧ More S0 S w0
def StP (g gl : Nat) (A : Option Addr) (n cap : Nat) (b : Nat → Nat) (most sz cl : Nat) (r : List Nat × Nat) (was : Nat) (N : Int) (S0 : List Nat) (w0 : World) (k0 : Nat) (e : Ending) (w : World) : Prop :=
  (e = .returned (.tuple #[]) ∧ StY g gl A n cap b most sz cl r was N S0 w0 k0 w) ∨ (Thrown e r ∧ StN g gl A n cap b most sz cl S0 w0 w)
section
variable (g gl : Nat) (A : Option Addr) (n cap : Nat) (b : Nat → Nat) (most sz cl : Nat) (r : List Nat × Nat)
set_option maxRecDepth 100000 in
set_option maxHeartbeats 2000000 in
theorem step_loop (hbt : ∀ i, b i < 256) (hn : n ≤ 1000000) (hmost : most ≤ 1000000) (BR BW BN : Nat) (N : Int) (hN : 1 ≤ N) (s : Cz) (wt : List Nat) (S : List Nat) (hom : s.out.length ≤ most) (hg : Gon b n cl sz most r s wt) (w : World) (hB : StB g BR BW BN s.out.length N S w) (h : LzS g gl A n cap b most sz cl s wt false 0 S w) :
    Calls Try.prog 33 #[.pointer (some ⟨BR, 0, none⟩), .pointer (some ⟨BW, 0, none⟩), .pointer (some ⟨BN, 0, none⟩)] w (StP g gl A n cap b most sz cl r s.out.length N S w (mz n s wt false)) := by
  obtain ⟨was, hwas⟩ : ∃ was, was = s.out.length := ⟨_, rfl⟩
  rw [← hwas] at hB ⊢
  have h0 : StR g gl A n cap b most sz cl r BR BW BN was N S w (mz n s wt false) (mz n s wt false) w := ⟨S, s, wt, false, rfl, .inr ⟨rfl, rfl, hwas.symm⟩, hB, h, Chg.refl _ _, More.refl _ _, (fun h => by cases h), fun _ => hg, by omega, hom⟩
  obtain ⟨k0, hk0⟩ : ∃ k0, k0 = mz n s wt false := ⟨_, rfl⟩
  rw [← hk0] at h0 ⊢
  have H0 := Lib.hid h0
  clear h0 hk0 hg h hB hwas hom
  go_enter Try.func33, Try.ntmps33
  go_wp2_with fail
  go_loopg [] k0 (fun k wr => StR g gl A n cap b most sz cl r BR BW BN was N S w k0 k wr)
  case atStart => exact H0.out
  case round =>
    obtain ⟨S1, s1, wt1, en, hk, hk2, hB, hL, hC, hM, he1, he2, hw1, hw2⟩ := hrel
    have hL2 := hL
    obtain ⟨⟨vt, vw, vo, lc, t, hb, hm, hp⟩, h256⟩ := hL2
    obtain ⟨_, Ao, co, rfl, q1, q2, _⟩ := Sl.of_own hm.out
    have hb' : wr.heap[g]? = _ := hb
    have c8 := hp_cell (j := 8) hb' rfl
    have c9 := hp_cell (j := 9) hb' rfl
    have cr := hp_cell (j := 0) hB.xr rfl
    have cw := hp_cell (j := 0) hB.xw rfl
    have cn := hp_cell (j := 0) hB.xn rfl
    obtain ⟨P, hP⟩ : ∃ P, P = s1.out.length := ⟨_, rfl⟩
    rw [← hP] at c8 hw1 hw2 q1
    have hP2 : (P : Int) - (was : Int) = (P : Int) - (was : Int) := rfl
    have HP := Lib.hid hP
    have HB := Lib.hid hB
    have HL := Lib.hid hL
    have HC := Lib.hid hC
    have HM := Lib.hid hM
    have HE1 := Lib.hid he1
    have HE2 := Lib.hid he2
    have HK := Lib.hid hk
    have HK2 := Lib.hid hk2
    clear hb hb' hm hp h256 hB hL hC hM he1 he2 hk hk2 hP hP2
    cases en with
    | true =>
      go_wp2_with fail
      go_quiet (fail)
      go_wp2_with fail
      go_end0
      refine .inl ⟨rfl, S1, s1, wt1, true, ?_, HL.out.drewN _, HC.out.drewN _, HM.out, (fun _ => HE1.out trivial), (fun h => by cases h), ?_, ?_⟩
      · rcases HK2.out with h | ⟨_, h, _⟩
        · rw [← HK.out]; exact h
        · cases h
      · rw [← HP.out]; exact hw1
      · rw [← HP.out]; exact hw2
    | false =>
      by_cases hlt : (P : Int) - was < N
      · have d1 : decide ((P : Int) - (was : Int) < N) = true := by simp; omega
        go_wp2_with fail
        go_quiet (fail)
        go_wp2_with fail
        refine (one_any hbt hn hmost (by rw [← HP.out]; exact hw2) (HE2.out trivial) (HL.out.drewN _)).mono ?_
        rintro e w2 ⟨S2, s2, wt2, hMo, hC2, hd⟩
        have hC3 : Chg S w w2 := ((HC.out.drewN _).trans2 hC2 HM.out)
        have hM3 : More S S2 w := HM.out.trans hMo HC.out.size
        have hB3 : StB g BR BW BN was N S2 w2 := (HB.out.chg ((Chg.refl S1 wr).drewN _) (More.refl _ _)).chg hC2 hMo
        have HC3 := Lib.hid hC3
        have HM3 := Lib.hid hM3
        have HB3 := Lib.hid hB3
        clear hC3 hM3 hB3 hC2 hMo c8 c9 cr cw cn
        rcases hd with ⟨rfl, en', hL', h1, h2, hmz, ho1, ho2, ho3⟩ | ⟨⟨rfl, hr⟩ | ⟨q, rfl, hr, hq⟩, hL'⟩
        · have HL' := Lib.hid hL'
          have H1 := Lib.hid h1
          have H2 := Lib.hid h2
          have HZ := Lib.hid hmz
          have HO := Lib.hid ho1
          have HO3 := Lib.hid ho3
          clear hL' h1 h2 hmz ho1 ho2 ho3
          go_wp2_with fail
          go_roundg (mz n s2 wt2 en')
          case measure => rw [HK.out]; exact HZ.out
          case rel =>
            refine ⟨S2, s2, wt2, en', rfl, .inl ?_, HB3.out, HL'.out, HC3.out, HM3.out, H1.out, H2.out, ?_, HO3.out⟩
            · have h9 := HZ.out
              rw [← HK.out] at h9
              rcases HK2.out with h | ⟨h, _⟩ <;> omega
            · have h9 := HO.out
              rw [← HP.out] at h9
              omega
        · have HL' := Lib.hid hL'
          have HR := Lib.hid hr
          clear hL' hr
          go_wp2_with fail
          exact ⟨rfl, .inr ⟨.inl ⟨rfl, HR.out⟩, S2, s2, wt2, HL'.out, HC3.out, HM3.out⟩⟩
        · have HL' := Lib.hid hL'
          have HR := Lib.hid hr
          clear hL' hr
          go_wp2_with fail
          exact ⟨rfl, .inr ⟨.inr ⟨q, rfl, HR.out, hq⟩, S2, s2, wt2, HL'.out, HC3.out, HM3.out⟩⟩
      · have d1 : decide ((P : Int) - (was : Int) < N) = false := by simp; omega
        go_wp2_with fail
        go_quiet (fail)
        go_wp2_with fail
        go_end0
        refine .inl ⟨rfl, S1, s1, wt1, false, ?_, HL.out.drewN _, HC.out.drewN _, HM.out, HE1.out, (fun _ => ⟨HE2.out trivial, ?_⟩), ?_, ?_⟩
        · rcases HK2.out with h | ⟨_, _, h⟩
          · rw [← HK.out]; exact h
          · have := HP.out
            omega
        · rw [← HP.out]; omega
        · rw [← HP.out]; exact hw1
        · rw [← HP.out]; exact hw2
end
end Go.Proofs.Ytioghgnngdcicaa
