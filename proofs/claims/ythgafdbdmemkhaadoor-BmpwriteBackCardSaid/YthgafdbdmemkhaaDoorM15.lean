/- bmpread: a reader that draws runs, as one state; what its functions do to it. bmpread: single, bytes as they stand. bmpread: runs. bmpread: a pixel of any kind; rows drawn, in plain words. -/
import Derived.Test.YthgafdbdmemkhaaDoorM14

namespace Go.Proofs.YthgafdbdmemkhaaDoor
set_option maxRecDepth 100000
set_option linter.unusedVariables false
open Go.ChangeShapes Go.WideShapes Go.ChangeAt Go.RowKit

/-- What stays of such a reader. -/
structure RdC (g ga W H n4 cap' kind m cap : Nat) (A AC : Option Addr) (cc : Nat) (L : List P4) (d : Nat → Nat) : Prop where
  hW : W ≤ 256
  hH : H ≤ 256
  hL : L.length ≤ 256
  hga : g ≠ ga
  hA : ∀ a, AC = some a → a.block ≠ ga ∧ a.block ≠ g
  hF : ∀ a, A = some a → a.block ≠ ga ∧ a.block ≠ g
  hn : n4 ≤ cap'
  hmax : cap' ≤ maxLen
  hm : mayB (W : Nat) (H : Nat) n4 = true
  hd : ∀ i, d i < 256
  hk : kind = 1 ∨ kind = 2
  hmm : m ≤ 262144
/-- The reader stands at the byte p, and at the pixel x, y; c: the samples. -/
structure RdS (g ga W H n4 cap' kind m cap : Nat) (A AC : Option Addr) (cc : Nat) (L : List P4) (d : Nat → Nat) (p x y : Nat) (c : Nat → Nat) (cs : Array Value) (w : World) : Prop where
  hS : RnS g ga W H n4 cap' 0 x y AC cc L cs w
  q0 : cs[0]? = some (.slice A m cap)
  q7 : cs[7]? = some (.int .i64 (kind : Nat))
  q17 : cs[17]? = some (.int .i64 (p : Nat))
  hcs : cs.size = 21
  hB : Byt w A m d
  hO : Own 0 w (some ⟨ga, 0, none⟩) n4 c
theorem bel_drewN {B : Nat} (w : World) (k : Nat) : Below B w (w.drewN k) := ⟨rfl, rfl, rfl, Nat.le_refl _, fun _ _ => rfl⟩
def RdW (g ga W H n4 cap' kind m cap : Nat) (A AC : Option Addr) (cc : Nat) (L : List P4) (d : Nat → Nat) (p x y : Nat) (c : Nat → Nat) (w : World) : Prop := ∃ cs, RdS g ga W H n4 cap' kind m cap A AC cc L d p x y c cs w
section
variable {g ga W H n4 cap' kind m cap : Nat} {A AC : Option Addr} {cc : Nat} {L : List P4} {d : Nat → Nat} {p x y : Nat} {c : Nat → Nat} {w : World}
theorem RdC.off (K : RdC g ga W H n4 cap' kind m cap A AC cc L d) : Off A [g, ga] := fun a ha => by
  have := K.hF a ha
  simp; omega
theorem RdW.c17 (h : RdW g ga W H n4 cap' kind m cap A AC cc L d p x y c w) : w.cell? ⟨g, 17, none⟩ = some (.int .i64 (p : Nat)) := by
  obtain ⟨cs, h⟩ := h
  exact hp_cell h.hS.hR h.q17
theorem RdW.c7 (h : RdW g ga W H n4 cap' kind m cap A AC cc L d p x y c w) : w.cell? ⟨g, 7, none⟩ = some (.int .i64 (kind : Nat)) := by
  obtain ⟨cs, h⟩ := h
  exact hp_cell h.hS.hR h.q7
theorem RdW.c18 (h : RdW g ga W H n4 cap' kind m cap A AC cc L d p x y c w) : w.cell? ⟨g, 18, none⟩ = some (.int .i64 (x : Nat)) := by
  obtain ⟨cs, h⟩ := h
  exact hp_cell h.hS.hR h.hS.q18
theorem RdW.c19 (h : RdW g ga W H n4 cap' kind m cap A AC cc L d p x y c w) : w.cell? ⟨g, 19, none⟩ = some (.int .i64 (y : Nat)) := by
  obtain ⟨cs, h⟩ := h
  exact hp_cell h.hS.hR h.hS.q19
theorem RdW.fz (h : RdW g ga W H n4 cap' kind m cap A AC cc L d p x y c w) (j : Nat) : w.frozen? ⟨g, j, none⟩ = false := by
  obtain ⟨cs, h⟩ := h
  exact hp_froz h.hS.hR j
theorem RdW.drewN (h : RdW g ga W H n4 cap' kind m cap A AC cc L d p x y c w) (k : Nat) : RdW g ga W H n4 cap' kind m cap A AC cc L d p x y c (w.drewN k) := by
  obtain ⟨cs, h⟩ := h
  exact ⟨cs, ⟨h.hS.hR, h.hS.q3, h.hS.q4, h.hS.q13, h.hS.q14, h.hS.q15, h.hS.q16, h.hS.q18, h.hS.q19, h.hS.hS.below (bel_drewN w k)⟩, h.q0, h.q7, h.q17, h.hcs, h.hB.below (bel_drewN w k), h.hO.below (bel_drewN w k)⟩
/-- The reader's own cells 17, 18, 19 turn. -/
theorem RdW.own (K : RdC g ga W H n4 cap' kind m cap A AC cc L d) {cs cs' : Array Value} (h : RdS g ga W H n4 cap' kind m cap A AC cc L d p x y c cs w) {w' : World} {p' x' y' : Nat} (hc : Chg [g] w w') (hj : ∀ j, j < 17 → cs'[j]? = cs[j]?) (hs : cs'.size = 21) (h17 : cs'[17]? = some (.int .i64 (p' : Nat))) (h18 : cs'[18]? = some (.int .i64 (x' : Nat))) (h19 : cs'[19]? = some (.int .i64 (y' : Nat)))
    (hR : w'.heap[g]? = some (.cells cs' 71 (0, 0))) : RdW g ga W H n4 cap' kind m cap A AC cc L d p' x' y' c w' := by
  refine ⟨cs', ⟨hR, (hj _ (by omega)).trans h.hS.q3, (hj _ (by omega)).trans h.hS.q4, (hj _ (by omega)).trans h.hS.q13, (hj _ (by omega)).trans h.hS.q14, (hj _ (by omega)).trans h.hS.q15, (hj _ (by omega)).trans h.hS.q16, h18, h19, ?_⟩, (hj _ (by omega)).trans h.q0, (hj _ (by omega)).trans h.q7, h17, hs, ?_, ?_⟩
  · exact h.hS.hS.chg hc (fun a ha => by have := K.hA a ha; simp; omega)
  · exact h.hB.chg hc (fun _ a ha => by have := K.hF a ha; simp; omega)
  · intro hn
    obtain ⟨g', cur, he, hB, hg, hs, hcc⟩ := h.hO hn
    cases he
    exact ⟨ga, _, rfl, hB, hp_chg hg hc (by have := K.hga; simp; omega), hs, hcc⟩
end
section
variable {g ga W H n4 cap' kind m cap : Nat} {A AC : Option Addr} {cc : Nat} {L : List P4} {d : Nat → Nat} {p x y : Nat} {c : Nat → Nat} {w : World}
theorem next_n (K : RdC g ga W H n4 cap' kind m cap A AC cc L d) (h : RdW g ga W H n4 cap' kind m cap A AC cc L d p x y c w) (hp : m ≤ p) :
    Calls Tryd.prog 56 #[.pointer (some ⟨g, 0, none⟩)] w fun e w' => PanB 2 e ∧ Chg [g, ga] w w' := by
  obtain ⟨cs, h⟩ := h
  refine (next_no g p m cap A cs hp w h.hS.hR h.q0 h.q17).mono ?_
  rintro e w' ⟨hp, k, rfl⟩
  exact ⟨hp, (Chg.refl _ w).drewN k⟩
theorem next_y (K : RdC g ga W H n4 cap' kind m cap A AC cc L d) (h : RdW g ga W H n4 cap' kind m cap A AC cc L d p x y c w) (hp : p < m) :
    Calls Tryd.prog 56 #[.pointer (some ⟨g, 0, none⟩)] w fun e w' => e = .returned (.int .i64 ((d p : Nat) : Int)) ∧ Chg [g, ga] w w' ∧ RdW g ga W H n4 cap' kind m cap A AC cc L d (p + 1) x y c w' := by
  obtain ⟨cs, h⟩ := h
  refine (next_yes g p m cap A cs d K.hd hp K.hmm w h.hS.hR h.q0 h.q17 h.hB (fun a ha => (K.hF a ha).2)).mono ?_
  rintro e w' ⟨rfl, k, rfl⟩
  have hc : Chg [g] w ((w.setCell ⟨g, 17, none⟩ (.int .i64 ((p + 1 : Nat) : Int))).drewN k) := ((Chg.refl [g] w).set (.inl (by simp)) 17 _).drewN k
  refine ⟨rfl, hc.mono (by simp), ?_⟩
  refine RdW.own K h hc (cs' := cs.setIfInBounds 17 (.int .i64 ((p + 1 : Nat) : Int))) (fun j hj => setB_get (by omega)) (by simp [h.hcs]) (setB_same h.q17) ((setB_get (by omega)).trans h.hS.q18) ((setB_get (by omega)).trans h.hS.q19) ?_
  exact heap_set h.hS.hR
theorem put_s (v : Nat) (K : RdC g ga W H n4 cap' kind m cap A AC cc L d) (h : RdW g ga W H n4 cap' kind m cap A AC cc L d p x y c w) :
    Calls Tryd.prog 65 #[.pointer (some ⟨g, 0, none⟩), .int .i64 (v : Nat)] w fun e w' => Chg [g, ga] w w' ∧ ((W ≤ x ∨ H ≤ y ∨ L.length ≤ v) ∧ PanB 4 e ∨
      ¬(W ≤ x ∨ H ≤ y ∨ L.length ≤ v) ∧ e = .returned (.tuple #[]) ∧ RdW g ga W H n4 cap' kind m cap A AC cc L d p (x + 1) y (setC c ((H - 1 - y) * W + x) ((L[v]?).getD (0, 0, 0, 0))) w') := by
  obtain ⟨cs, h⟩ := h
  refine (put_any g ga W H n4 cap' v x y AC cc L cs w h.hS.v h.hcs K.hW K.hH K.hL K.hga K.hA K.hn K.hmax K.hm c h.hO).mono ?_
  rintro e w' ⟨hC, hr⟩
  refine ⟨hC, hr.imp id ?_⟩
  rintro ⟨hb, he, hS, hO⟩
  exact ⟨hb, he, _, ⟨hS.v, (setB_get (by omega)).trans h.q0, (setB_get (by omega)).trans h.q7, (setB_get (by omega)).trans h.q17, by simp [h.hcs], h.hB.chg hC (fun _ => K.off), hO⟩⟩
theorem run_s (n v : Nat) (hnn : n < 256) (hv : v < 256) (K : RdC g ga W H n4 cap' kind m cap A AC cc L d) (h : RdW g ga W H n4 cap' kind m cap A AC cc L d p x y c w) (R : Nat × (Nat → Nat) × Nat) (hRr : R = putsB W H L y (fun j => some (nib kind v j)) n 0 x c) :
    Calls Tryd.prog 57 #[.pointer (some ⟨g, 0, none⟩), .int .i64 (n : Nat), .int .i64 (v : Nat)] w fun e w' => Chg [g, ga] w w' ∧ (R.2.2 ≠ 0 ∧ PanB R.2.2 e ∨
      R.2.2 = 0 ∧ e = .returned (.tuple #[]) ∧ RdW g ga W H n4 cap' kind m cap A AC cc L d p R.1 y R.2.1 w') := by
  obtain ⟨cs, h⟩ := h
  subst hRr
  refine (run_any kind K.hk n v hnn hv g ga W H n4 cap' x y AC cc L cs w h.hS h.q7 h.hcs K.hW K.hH K.hL K.hga K.hA K.hn K.hmax K.hm c h.hO).mono ?_
  rintro e w' ⟨hC, hr⟩
  refine ⟨hC, hr.imp id ?_⟩
  rintro ⟨hb, he, cs', hs, hj, hS, hO⟩
  exact ⟨hb, he, cs', ⟨hS, (hj _ (by omega)).trans h.q0, (hj _ (by omega)).trans h.q7, (hj _ (by omega)).trans h.q17, hs, h.hB.chg hC (fun _ => K.off), hO⟩⟩
theorem step_s (hx : x ≤ 512) (hy : y ≤ 100000000) (K : RdC g ga W H n4 cap' kind m cap A AC cc L d) (h : RdW g ga W H n4 cap' kind m cap A AC cc L d p x y c w) :
    Calls Tryd.prog 58 #[.pointer (some ⟨g, 0, none⟩)] w fun e w' => Chg [g, ga] w w' ∧ (m < p + 2 ∧ PanB 2 e ∨ p + 2 ≤ m ∧ (W < x + d p ∨ H ≤ y + d (p + 1)) ∧ PanB 4 e ∨
      p + 2 ≤ m ∧ ¬(W < x + d p ∨ H ≤ y + d (p + 1)) ∧ e = .returned (.tuple #[]) ∧ RdW g ga W H n4 cap' kind m cap A AC cc L d (p + 2) (x + d p) (y + d (p + 1)) c w') := by
  obtain ⟨cs, h⟩ := h
  have hA : ∀ a, A = some a → a.block ≠ g := fun a ha => (K.hF a ha).2
  by_cases h1 : m ≤ p
  · refine (step_no1 g p m cap x y A cs h1 w h.hS.hR h.q0 h.q17 h.hS.q18).mono ?_
    rintro e w' ⟨hp, hC⟩
    exact ⟨hC.mono (by simp), .inl ⟨by omega, hp⟩⟩
  by_cases h2 : m ≤ p + 1
  · refine (step_no2 g p m cap x y A cs d K.hd hx (by omega) h2 K.hmm w h.hS.hR h.q0 h.q17 h.hS.q18 h.hS.q19 h.hB hA).mono ?_
    rintro e w' ⟨hp, hC⟩
    exact ⟨hC.mono (by simp), .inl ⟨by omega, hp⟩⟩
  by_cases h3 : W < x + d p
  · refine (step_far g p m cap x y W H A cs d K.hd hx hy (by omega) (by omega) K.hmm h3 w h.hS.hR h.q0 h.hS.q3 h.hS.q4 h.q17 h.hS.q18 h.hS.q19 h.hB hA).mono ?_
    rintro e w' ⟨hp, hC⟩
    exact ⟨hC.mono (by simp), .inr (.inl ⟨by omega, .inl h3, hp⟩)⟩
  by_cases h4 : H ≤ y + d (p + 1)
  · refine (step_up g p m cap x y W H A cs d K.hd hx hy (by omega) (by omega) K.hmm ⟨by omega, h4⟩ w h.hS.hR h.q0 h.hS.q3 h.hS.q4 h.q17 h.hS.q18 h.hS.q19 h.hB hA).mono ?_
    rintro e w' ⟨hp, hC⟩
    exact ⟨hC.mono (by simp), .inr (.inl ⟨by omega, .inr h4, hp⟩)⟩
  refine (step_yes g p m cap x y W H A cs d K.hd hx hy (by omega) (by omega) K.hmm ⟨by omega, by omega⟩ w h.hS.hR h.q0 h.hS.q3 h.hS.q4 h.q17 h.hS.q18 h.hS.q19 h.hB hA).mono ?_
  rintro e w' ⟨he, hC, hR⟩
  refine ⟨hC.mono (by simp), .inr (.inr ⟨by omega, by omega, he, ?_⟩)⟩
  refine RdW.own K h hC (fun j hj => ?_) (by simp [h.hcs]) ?_ ?_ ?_ hR
  · rw [setB_get (by omega), setB_get (by omega), setB_get (by omega), setB_get (by omega)]
  · rw [setB_get (by omega), setB_same (u := .int .i64 ((p + 1 : Nat) : Int)) (by rw [setB_get (by omega)]; exact setB_same h.q17)]
  · rw [setB_get (by omega), setB_get (by omega), setB_same (u := .int .i64 (x : Nat)) (by rw [setB_get (by omega)]; exact h.hS.q18)]
    rw [show ((x + d p : Nat) : Int) = (x : Int) + (d p : Int) by omega]
  · rw [setB_same (u := .int .i64 (y : Nat)) (by rw [setB_get (by omega), setB_get (by omega), setB_get (by omega)]; exact h.hS.q19)]
    rw [show ((y + d (p + 1) : Nat) : Int) = (y : Int) + (d (p + 1) : Int) by omega]
end
end Go.Proofs.YthgafdbdmemkhaaDoor

namespace Go.Proofs.YthgafdbdmemkhaaDoor
set_option maxRecDepth 100000
set_option linter.unusedVariables false
open Go.ChangeShapes Go.WideShapes Go.ChangeAt Go.RowKit

def oneB (m kind p : Nat) (d : Nat → Nat) (i : Nat) : Option Nat := if m ≤ p + (if kind = 2 then i / 2 else i) then none else some (nib kind (d (p + (if kind = 2 then i / 2 else i))) i)
def usedB (kind n : Nat) : Nat := if kind = 2 then (n + 1) / 2 else n
theorem puts_none {W H y : Nat} {L : List P4} {G : Nat → Option Nat} {k i x : Nat} {c : Nat → Nat} (hg : G i = none) : putsB W H L y G (k + 1) i x c = (x, c, 2) := by
  rw [putsB, hg]
theorem one8_no {m p i : Nat} {d : Nat → Nat} (h : m ≤ p + i) : oneB m 1 p d i = none := by simp [oneB, h]
theorem one8_yes {m p i : Nat} {d : Nat → Nat} (h : ¬m ≤ p + i) : oneB m 1 p d i = some (d (p + i)) := by simp [oneB, h, nib]
theorem one4_no {m p i : Nat} {d : Nat → Nat} (h : m ≤ p + i / 2) : oneB m 2 p d i = none := by simp [oneB, h]
theorem one4_yes {m p i : Nat} {d : Nat → Nat} (h : ¬m ≤ p + i / 2) (he : i % 2 = 0) : oneB m 2 p d i = some (d (p + i / 2) / 16) := by simp [oneB, h, nib, he]
theorem one4_odd {m p i : Nat} {d : Nat → Nat} (h : ¬m ≤ p + i / 2) (he : i % 2 = 0) : oneB m 2 p d (i + 1) = some (d (p + i / 2) % 16) := by
  have e : (i + 1) / 2 = i / 2 := by omega
  have e2 : ¬(i + 1) % 2 = 0 := by omega
  simp [oneB, e, h, nib, e2]
/-- What single came to. -/
def SngE (g ga W H n4 cap' kind m cap : Nat) (A AC : Option Addr) (cc : Nat) (L : List P4) (d : Nat → Nat) (n p y : Nat) (w : World) (R : Nat × (Nat → Nat) × Nat) (e : Ending) (w' : World) : Prop :=
  Chg [g, ga] w w' ∧ (R.2.2 ≠ 0 ∧ PanB R.2.2 e ∨ R.2.2 = 0 ∧ (usedB kind n % 2 = 1 ∧ m ≤ p + usedB kind n ∧ PanB 2 e ∨
    e = .returned (.tuple #[]) ∧ RdW g ga W H n4 cap' kind m cap A AC cc L d (p + (usedB kind n + usedB kind n % 2)) R.1 y R.2.1 w'))
set_option maxRecDepth 100000 in
set_option maxHeartbeats 4000000 in
theorem single_8 (g ga W H n4 cap' m cap : Nat) (A AC : Option Addr) (cc : Nat) (L : List P4) (d : Nat → Nat) (n p x y : Nat) (c : Nat → Nat) (w : World) (hnn : n < 256) (hp : p ≤ 262144) (K : RdC g ga W H n4 cap' 1 m cap A AC cc L d) (h : RdW g ga W H n4 cap' 1 m cap A AC cc L d p x y c w) (R : Nat × (Nat → Nat) × Nat) (hRr : R = putsB W H L y (oneB m 1 p d) n 0 x c) :
    Calls Tryd.prog 59 #[.pointer (some ⟨g, 0, none⟩), .int .i64 (n : Nat)] w (SngE g ga W H n4 cap' 1 m cap A AC cc L d n p y w R) := by
  have HR := Lib.hid hRr
  have HS := Lib.hid h
  have HK := Lib.hid K
  have c17 := h.c17
  clear h K hRr
  go_enter Tryd.func59, Tryd.ntmps59
  go_wp2_with fail
  go_loopw [5] (fun q wr => ∃ (i x1 : Nat) (c1 : Nat → Nat), i ≤ n ∧ p + i ≤ p + n ∧ q = .int .i64 (i : Nat) ∧ Chg [g, ga] w wr ∧ RdW g ga W H n4 cap' 1 m cap A AC cc L d (p + i) x1 y c1 wr ∧ R = putsB W H L y (oneB m 1 p d) (n - i) i x1 c1) (fun q _ => n - (intOf q).toNat)
  case atStart => exact ⟨0, x, c, by omega, by omega, rfl, by exact (Chg.refl _ w), HS.out, HR.out⟩
  case round =>
    obtain ⟨i, x1, c1, hi, -, rfl, hC, hS, hE⟩ := hrel
    by_cases hlt : i < n
    · have hnx : n - i = (n - (i + 1)) + 1 := by omega
      rw [hnx] at hE
      have HE := Lib.hid hE
      have HC := Lib.hid hC
      have HS1 := Lib.hid hS
      clear hE hC hS HS HR hnx c17
      go_wp2_with fail
      by_cases hm : m ≤ p + i
      · refine (next_n HK.out HS1.out hm).mono ?_
        rintro e w2 ⟨hb, hC2⟩
        obtain rfl := hb
        have hE := HE.out
        rw [puts_none (one8_no hm)] at hE
        dsimp +zetaDelta only [Exit.inBlock, Exit.then, bodyPost]
        exact ⟨rfl, HC.out.trans hC2, .inl ⟨by rw [hE]; simp, by rw [hE]; rfl⟩⟩
      · refine (next_y HK.out HS1.out (by omega)).mono ?_
        rintro e w2 ⟨rfl, hC2, hS2⟩
        have c7 := hS2.c7
        have HC2 := Lib.hid (HC.out.trans hC2)
        have HS2 := Lib.hid hS2
        clear hC2 hS2 HC HS1
        go_wp2_with fail
        refine (put_s (d (p + i)) HK.out HS2.out).mono ?_
        rintro e w3 ⟨hC3, ⟨hb, hp3⟩ | ⟨hb, rfl, hS3⟩⟩
        · obtain rfl := hp3
          have hE := HE.out
          rw [puts_no (one8_yes hm) hb] at hE
          dsimp +zetaDelta only [Exit.inBlock, Exit.then, bodyPost]
          exact ⟨rfl, HC2.out.trans hC3, .inl ⟨by rw [hE]; simp, by rw [hE]; rfl⟩⟩
        · have hE := HE.out
          rw [puts_yes (one8_yes hm) hb] at hE
          have HE2 := Lib.hid hE
          have HS3 := Lib.hid hS3
          have HC3 := Lib.hid (HC2.out.trans hC3)
          clear hE HE hS3 hC3 hb HC2 HS2
          go_wp2_with fail
          go_roundw
          case rel => exact ⟨i + 1, x1 + 1, _, hlt, by omega, by go_num, HC3.out, HS3.out, HE2.out⟩
          case measure => simp [intOf]; omega
    · obtain rfl : i = n := by omega
      rw [Nat.sub_self, putsB] at hE
      have HE := Lib.hid hE
      have HC := Lib.hid hC
      have HS1 := Lib.hid hS
      have c17 := hS.c17
      have e0 : ((p + i : Nat) : Int) = (p : Int) + (i : Int) := by omega
      rw [e0] at c17
      have HE0 := Lib.hid e0
      clear hE hC hS
      rcases Nat.mod_two_eq_zero_or_one i with he | he
      · have t3 : ((p : Int) + (i : Int) - (p : Int)) % 2 = 0 := by omega
        go_wp2_with fail
        go_end0
        rw [HE.out]
        refine ⟨HC.out, .inr ⟨rfl, .inr ⟨rfl, ?_⟩⟩⟩
        have e1 : p + (usedB 1 i + usedB 1 i % 2) = p + i := by simp [usedB]; omega
        rw [e1]
        exact HS1.out
      · have t3 : ((p : Int) + (i : Int) - (p : Int)) % 2 = 1 := by omega
        go_wp2_with fail
        by_cases hm : m ≤ p + i
        · refine (next_n HK.out HS1.out hm).mono ?_
          rintro e w2 ⟨hb, hC2⟩
          obtain rfl := hb
          dsimp +zetaDelta only [Exit.inBlock, Exit.then, bodyPost]
          exact ⟨rfl, HC.out.trans hC2, .inr ⟨by rw [HE.out], .inl ⟨by simp [usedB]; omega, by simp [usedB]; omega, rfl⟩⟩⟩
        · refine (next_y HK.out HS1.out (by omega)).mono ?_
          rintro e w2 ⟨rfl, hC2, hS2⟩
          have HC2 := Lib.hid (HC.out.trans hC2)
          have HS2 := Lib.hid hS2
          clear hC2 hS2 HC HS1
          go_wp2_with fail
          go_end0
          rw [HE.out]
          refine ⟨HC2.out, .inr ⟨rfl, .inr ⟨rfl, ?_⟩⟩⟩
          have e1 : p + (usedB 1 i + usedB 1 i % 2) = p + i + 1 := by simp [usedB]; omega
          rw [e1]
          exact HS2.out
set_option maxRecDepth 100000 in
set_option maxHeartbeats 4000000 in
theorem single_4 (g ga W H n4 cap' m cap : Nat) (A AC : Option Addr) (cc : Nat) (L : List P4) (d : Nat → Nat) (n p x y : Nat) (c : Nat → Nat) (w : World) (hnn : n < 256) (hp : p ≤ 262144) (K : RdC g ga W H n4 cap' 2 m cap A AC cc L d) (h : RdW g ga W H n4 cap' 2 m cap A AC cc L d p x y c w) (R : Nat × (Nat → Nat) × Nat) (hRr : R = putsB W H L y (oneB m 2 p d) n 0 x c) :
    Calls Tryd.prog 59 #[.pointer (some ⟨g, 0, none⟩), .int .i64 (n : Nat)] w (SngE g ga W H n4 cap' 2 m cap A AC cc L d n p y w R) := by
  have HR := Lib.hid hRr
  have HS := Lib.hid h
  have HK := Lib.hid K
  have HD := Lib.hid K.hd
  have c17 := h.c17
  clear h K hRr
  go_enter Tryd.func59, Tryd.ntmps59
  go_wp2_with fail
  go_loopw [5] (fun q wr => ∃ (i x1 : Nat) (c1 : Nat → Nat), i ≤ n + 1 ∧ i % 2 = 0 ∧ q = .int .i64 (i : Nat) ∧ Chg [g, ga] w wr ∧ RdW g ga W H n4 cap' 2 m cap A AC cc L d (p + i / 2) x1 y c1 wr ∧ R = putsB W H L y (oneB m 2 p d) (n - i) i x1 c1) (fun q _ => n + 1 - (intOf q).toNat)
  case atStart => exact ⟨0, x, c, by omega, by omega, rfl, by exact (Chg.refl _ w), HS.out, HR.out⟩
  case round =>
    obtain ⟨i, x1, c1, hi, hev, rfl, hC, hS, hE⟩ := hrel
    by_cases hlt : i < n
    · have hnx : n - i = (n - (i + 1)) + 1 := by omega
      rw [hnx] at hE
      have HE := Lib.hid hE
      have HC := Lib.hid hC
      have HS1 := Lib.hid hS
      clear hE hC hS HS HR hnx c17
      go_wp2_with fail
      by_cases hm : m ≤ p + i / 2
      · refine (next_n HK.out HS1.out hm).mono ?_
        rintro e w2 ⟨hb, hC2⟩
        obtain rfl := hb
        have hE := HE.out
        rw [puts_none (one4_no hm)] at hE
        dsimp +zetaDelta only [Exit.inBlock, Exit.then, bodyPost]
        exact ⟨rfl, HC.out.trans hC2, .inl ⟨by rw [hE]; simp, by rw [hE]; rfl⟩⟩
      · refine (next_y HK.out HS1.out (by omega)).mono ?_
        rintro e w2 ⟨rfl, hC2, hS2⟩
        have c7 := hS2.c7
        have HC2 := Lib.hid (HC.out.trans hC2)
        have HS2 := Lib.hid hS2
        have hdv := HD.out (p + i / 2)
        obtain ⟨v, hv⟩ : ∃ v, v = d (p + i / 2) := ⟨_, rfl⟩
        have HV := Lib.hid hv
        rw [← hv] at hdv
        rw [← hv]
        clear hC2 hS2 HC HS1 hv
        go_wp2_with fail
        rw [show (v : Int) / 16 = ((v / 16 : Nat) : Int) by omega]
        refine (put_s (v / 16) HK.out HS2.out).mono ?_
        rintro e w3 ⟨hC3, ⟨hb, hp3⟩ | ⟨hb, rfl, hS3⟩⟩
        · obtain rfl := hp3
          have hE := HE.out
          rw [puts_no ((one4_yes hm hev).trans (by rw [← HV.out])) hb] at hE
          dsimp +zetaDelta only [Exit.inBlock, Exit.then, bodyPost]
          exact ⟨rfl, HC2.out.trans hC3, .inl ⟨by rw [hE]; simp, by rw [hE]; rfl⟩⟩
        · have hE := HE.out
          rw [puts_yes ((one4_yes hm hev).trans (by rw [← HV.out])) hb] at hE
          have HC3 := Lib.hid (HC2.out.trans hC3)
          by_cases hl2 : i + 1 < n
          · have hnx : n - (i + 1) = (n - (i + 2)) + 1 := by omega
            rw [hnx] at hE
            have HE2 := Lib.hid hE
            have HS3 := Lib.hid hS3
            clear hE HE hS3 hC3 hb HC2 HS2 hnx
            go_wp2_with fail
            rw [and15 v hdv]
            refine (put_s (v % 16) HK.out HS3.out).mono ?_
            rintro e w4 ⟨hC4, ⟨hb, hp4⟩ | ⟨hb, rfl, hS4⟩⟩
            · obtain rfl := hp4
              have hE := HE2.out
              rw [puts_no ((one4_odd hm hev).trans (by rw [← HV.out])) hb] at hE
              dsimp +zetaDelta only [Exit.inBlock, Exit.then, bodyPost]
              exact ⟨rfl, HC3.out.trans hC4, .inl ⟨by rw [hE]; simp, by rw [hE]; rfl⟩⟩
            · have hE := HE2.out
              rw [puts_yes ((one4_odd hm hev).trans (by rw [← HV.out])) hb] at hE
              have HE3 := Lib.hid hE
              have HS4 := Lib.hid hS4
              have HC4 := Lib.hid (HC3.out.trans hC4)
              have e2 : p + i / 2 + 1 = p + (i + 2) / 2 := by omega
              have HE4 := Lib.hid e2
              clear hE HE2 hS4 hC4 hb HC3 HS3 e2
              go_wp2_with fail
              go_roundw
              case rel => exact ⟨i + 2, x1 + 1 + 1, _, by omega, by omega, by go_num, HC4.out, HE4.out ▸ HS4.out, HE3.out⟩
              case measure => simp [intOf]; omega
          · have hnx : n - (i + 1) = n - (i + 2) := by omega
            rw [hnx, show n - (i + 2) = 0 by omega, putsB] at hE
            have HE2 := Lib.hid hE
            have HS3 := Lib.hid hS3
            have e2 : p + i / 2 + 1 = p + (i + 2) / 2 := by omega
            have HE4 := Lib.hid e2
            have e3 : n - (i + 2) = 0 := by omega
            have HE5 := Lib.hid e3
            clear hE HE hS3 hC3 hb HC2 HS2 hnx e2 e3
            go_wp2_with fail
            go_roundw
            case rel => exact ⟨i + 2, x1 + 1, _, by omega, by omega, by go_num, HC3.out, HE4.out ▸ HS3.out, by rw [HE5.out, putsB]; exact HE2.out⟩
            case measure => simp [intOf]; omega
    · rw [show n - i = 0 by omega, putsB] at hE
      have HE := Lib.hid hE
      have HC := Lib.hid hC
      have eu : i / 2 = usedB 2 n := by simp [usedB]; omega
      rw [eu] at hS
      obtain ⟨u, hu⟩ : ∃ u, u = usedB 2 n := ⟨_, rfl⟩
      have hub : u ≤ 256 := by rw [hu, ← eu]; omega
      have HU := Lib.hid hu
      rw [← hu] at hS
      have HS1 := Lib.hid hS
      have c17 := hS.c17
      have e0 : ((p + u : Nat) : Int) = (p : Int) + (u : Int) := by omega
      rw [e0] at c17
      have HE0 := Lib.hid e0
      clear hE hC hS eu hu
      rcases Nat.mod_two_eq_zero_or_one u with he | he
      · have t3 : ((p : Int) + (u : Int) - (p : Int)) % 2 = 0 := by omega
        go_wp2_with fail
        go_end0
        rw [HE.out]
        refine ⟨HC.out, .inr ⟨rfl, .inr ⟨rfl, ?_⟩⟩⟩
        have e1 : p + (usedB 2 n + usedB 2 n % 2) = p + u := by rw [← HU.out]; omega
        rw [e1]
        exact HS1.out
      · have t3 : ((p : Int) + (u : Int) - (p : Int)) % 2 = 1 := by omega
        go_wp2_with fail
        by_cases hm : m ≤ p + u
        · refine (next_n HK.out HS1.out hm).mono ?_
          rintro e w2 ⟨hb, hC2⟩
          obtain rfl := hb
          dsimp +zetaDelta only [Exit.inBlock, Exit.then, bodyPost]
          exact ⟨rfl, HC.out.trans hC2, .inr ⟨by rw [HE.out], .inl ⟨by rw [← HU.out]; omega, by rw [← HU.out]; omega, rfl⟩⟩⟩
        · refine (next_y HK.out HS1.out (by omega)).mono ?_
          rintro e w2 ⟨rfl, hC2, hS2⟩
          have HC2 := Lib.hid (HC.out.trans hC2)
          have HS2 := Lib.hid hS2
          clear hC2 hS2 HC HS1
          go_wp2_with fail
          go_end0
          rw [HE.out]
          refine ⟨HC2.out, .inr ⟨rfl, .inr ⟨rfl, ?_⟩⟩⟩
          have e1 : p + (usedB 2 n + usedB 2 n % 2) = p + u + 1 := by rw [← HU.out]; omega
          rw [e1]
          exact HS2.out
theorem single_any (g ga W H n4 cap' kind m cap : Nat) (A AC : Option Addr) (cc : Nat) (L : List P4) (d : Nat → Nat) (n p x y : Nat) (c : Nat → Nat) (w : World) (hnn : n < 256) (hp : p ≤ 262144) (K : RdC g ga W H n4 cap' kind m cap A AC cc L d) (h : RdW g ga W H n4 cap' kind m cap A AC cc L d p x y c w) (R : Nat × (Nat → Nat) × Nat) (hRr : R = putsB W H L y (oneB m kind p d) n 0 x c) :
    Calls Tryd.prog 59 #[.pointer (some ⟨g, 0, none⟩), .int .i64 (n : Nat)] w (SngE g ga W H n4 cap' kind m cap A AC cc L d n p y w R) := by
  rcases K.hk with rfl | rfl
  · exact single_8 g ga W H n4 cap' m cap A AC cc L d n p x y c w hnn hp K h R hRr
  · exact single_4 g ga W H n4 cap' m cap A AC cc L d n p x y c w hnn hp K h R hRr
end Go.Proofs.YthgafdbdmemkhaaDoor

namespace Go.Proofs.YthgafdbdmemkhaaDoor
set_option maxRecDepth 100000
set_option linter.unusedVariables false
open Go.ChangeShapes Go.WideShapes Go.ChangeAt Go.RowKit

/-- What runs came to. -/
def RunsE (g ga W H n4 cap' kind m cap : Nat) (A AC : Option Addr) (cc : Nat) (L : List P4) (d : Nat → Nat) (w : World) (R : (Nat → Nat) × Nat) (e : Ending) (w' : World) : Prop :=
  Chg [g, ga] w w' ∧ (R.2 ≠ 0 ∧ PanB R.2 e ∨ R.2 = 0 ∧ e = .returned (.tuple #[]) ∧ ∃ p x y, RdW g ga W H n4 cap' kind m cap A AC cc L d p x y R.1 w')
theorem runs_short {d : Nat → Nat} {m W H kind k p x y : Nat} {L : List P4} {c : Nat → Nat} (h : m < p + 2) : runsB d m W H kind L k p x y c = (noB, 2) := by
  cases k with
  | zero => rfl
  | succ k => rw [runsB, if_pos h]
theorem runs_run {d : Nat → Nat} {m W H kind k p x y : Nat} {L : List P4} {c : Nat → Nat} (h : ¬m < p + 2) (h0 : 0 < d p) (R : Nat × (Nat → Nat) × Nat) (hR : R = putsB W H L y (fun j => some (nib kind (d (p + 1)) j)) (d p) 0 x c) :
    runsB d m W H kind L (k + 1) p x y c = if R.2.2 ≠ 0 then (noB, R.2.2) else runsB d m W H kind L k (p + 2) R.1 y R.2.1 := by
  subst hR
  rw [runsB, if_neg h, if_pos h0]
theorem runs_line {d : Nat → Nat} {m W H kind k p x y : Nat} {L : List P4} {c : Nat → Nat} (h : ¬m < p + 2) (h0 : d p = 0) (h1 : d (p + 1) = 0) :
    runsB d m W H kind L (k + 1) p x y c = runsB d m W H kind L k (p + 2) 0 (y + 1) c := by
  rw [runsB, if_neg h, if_neg (by omega), if_pos h1]
theorem runs_end {d : Nat → Nat} {m W H kind k p x y : Nat} {L : List P4} {c : Nat → Nat} (h : ¬m < p + 2) (h0 : d p = 0) (h1 : d (p + 1) = 1) :
    runsB d m W H kind L (k + 1) p x y c = (c, 0) := by
  rw [runsB, if_neg h, if_neg (by omega), if_neg (by omega), if_pos h1]
theorem runs_step {d : Nat → Nat} {m W H kind k p x y : Nat} {L : List P4} {c : Nat → Nat} (h : ¬m < p + 2) (h0 : d p = 0) (h1 : d (p + 1) = 2) :
    runsB d m W H kind L (k + 1) p x y c = if m < p + 2 + 2 then (noB, 2) else if W < x + d (p + 2) ∨ H ≤ y + d (p + 2 + 1) then (noB, 4) else runsB d m W H kind L k (p + 2 + 2) (x + d (p + 2)) (y + d (p + 2 + 1)) c := by
  rw [runsB, if_neg h, if_neg (by omega), if_neg (by omega), if_neg (by omega), if_pos h1]
theorem runs_one {d : Nat → Nat} {m W H kind k p x y : Nat} {L : List P4} {c : Nat → Nat} (h : ¬m < p + 2) (h0 : d p = 0) (h1 : 2 < d (p + 1)) (R : Nat × (Nat → Nat) × Nat) (hR : R = putsB W H L y (oneB m kind (p + 2) d) (d (p + 1)) 0 x c) :
    runsB d m W H kind L (k + 1) p x y c = if R.2.2 ≠ 0 then (noB, R.2.2) else runsB d m W H kind L k (p + 2 + (usedB kind (d (p + 1)) + usedB kind (d (p + 1)) % 2)) R.1 y R.2.1 := by
  subst hR
  rw [runsB, if_neg h, if_neg (by omega), if_neg (by omega), if_neg (by omega), if_neg (by omega)]
  rfl
theorem puts_le0 {W H y : Nat} {L : List P4} {G : Nat → Option Nat} (hW : W ≤ 512) : ∀ (k i x : Nat) (c : Nat → Nat), x ≤ 512 → (putsB W H L y G k i x c).1 ≤ 512
  | 0, i, x, c, h => h
  | k + 1, i, x, c, h => by
    rw [putsB]
    split
    · exact h
    · split
      · exact h
      · exact puts_le0 hW k (i + 1) (x + 1) _ (by omega)
theorem puts_le {W H y : Nat} {L : List P4} {G : Nat → Option Nat} {k i x : Nat} {c : Nat → Nat} {Q : Nat × (Nat → Nat) × Nat} (hQ : Q = putsB W H L y G k i x c) (h : W ≤ 512 ∧ x ≤ 512) : Q.1 ≤ 512 := by
  subst hQ
  exact puts_le0 h.1 k i x c h.2
set_option maxRecDepth 100000 in
set_option maxHeartbeats 4000000 in
theorem runs_any (g ga W H n4 cap' kind m cap : Nat) (A AC : Option Addr) (cc : Nat) (L : List P4) (d : Nat → Nat) (p0 off : Nat) (hoff : off ≤ m) (c0 : Nat → Nat) (cs : Array Value) (w : World) (K : RdC g ga W H n4 cap' kind m cap A AC cc L d) (h : RdS g ga W H n4 cap' kind m cap A AC cc L d p0 0 0 c0 cs w) (q1 : cs[1]? = some (.int .i64 (off : Nat))) (R : (Nat → Nat) × Nat) (hRr : R = runsB d m W H kind L (m + 1) off 0 0 c0) :
    Calls Tryd.prog 46 #[.pointer (some ⟨g, 0, none⟩)] w (RunsE g ga W H n4 cap' kind m cap A AC cc L d w R) := by
  have c1 := hp_cell (j := 1) h.hS.hR q1
  have c17 := hp_cell (j := 17) h.hS.hR h.q17
  have fz := hp_froz h.hS.hR
  have hC0 : Chg [g] w (w.setCell ⟨g, 17, none⟩ (.int .i64 (off : Nat))) := (Chg.refl [g] w).set (.inl (by simp)) 17 _
  have hS0 : RdW g ga W H n4 cap' kind m cap A AC cc L d off 0 0 c0 (w.setCell ⟨g, 17, none⟩ (.int .i64 (off : Nat))) :=
    RdW.own K h hC0 (cs' := cs.setIfInBounds 17 (.int .i64 (off : Nat))) (fun j hj => setB_get (by omega)) (by simp [h.hcs]) (setB_same h.q17) ((setB_get (by omega)).trans h.hS.q18) ((setB_get (by omega)).trans h.hS.q19) (heap_set h.hS.hR)
  have HC0 : Hid (Chg [g, ga] w (w.setCell ⟨g, 17, none⟩ (.int .i64 (off : Nat)))) := Lib.hid (hC0.mono (by simp))
  have HS0 := Lib.hid hS0
  have HR := Lib.hid hRr
  have HK := Lib.hid K
  have HD := Lib.hid K.hd
  have hH := K.hH
  have hW := K.hW
  have hmm := K.hmm
  clear h K hRr q1 hS0 hC0
  go_enter Tryd.func46, Tryd.ntmps46
  go_wp2_with fail
  clear c1 c17 fz
  generalize w.setCell ⟨g, 17, none⟩ (.int .i64 (off : Nat)) = w1 at *
  go_loopg [] (m + 1) (fun q wr => ∃ (k p x1 y1 : Nat) (c1 : Nat → Nat), q = k ∧ p ≤ m + 600 ∧ m + 1 ≤ k + p ∧ x1 ≤ 512 ∧ y1 ≤ H + p ∧ Chg [g, ga] w wr ∧ RdW g ga W H n4 cap' kind m cap A AC cc L d p x1 y1 c1 wr ∧ Hid (R = runsB d m W H kind L k p x1 y1 c1))
  case atStart => exact ⟨m + 1, off, 0, 0, c0, rfl, by omega, by omega, by omega, by omega, HC0.out, HS0.out, HR⟩
  case round =>
    clear HC0 HS0 HR
    obtain ⟨k, p, x1, y1, c1, hq0, hp, hk, hx, hy, hC, hS, hE⟩ := hrel
    have HC := Lib.hid hC
    have HS := Lib.hid hS
    clear hC hS
    go_wp2_with fail
    by_cases h1 : m ≤ p
    · refine (next_n HK.out HS.out h1).mono ?_
      rintro e w2 ⟨hb, hC2⟩
      obtain rfl := hb
      have hE := hE.out
      rw [runs_short (by omega)] at hE
      dsimp +zetaDelta only [Exit.inBlock, Exit.then, bodyPost]
      exact ⟨rfl, HC.out.trans hC2, .inl ⟨by rw [hE]; simp, by rw [hE]; rfl⟩⟩
    refine (next_y HK.out HS.out (by omega)).mono ?_
    rintro e w2 ⟨rfl, hC2, hS2⟩
    have HC2 := Lib.hid (HC.out.trans hC2)
    have HS2 := Lib.hid hS2
    clear hC2 hS2 HC HS
    go_wp2_with fail
    by_cases h2 : m ≤ p + 1
    · refine (next_n HK.out HS2.out h2).mono ?_
      rintro e w3 ⟨hb, hC3⟩
      obtain rfl := hb
      have hE := hE.out
      rw [runs_short (by omega)] at hE
      dsimp +zetaDelta only [Exit.inBlock, Exit.then, bodyPost]
      exact ⟨rfl, HC2.out.trans hC3, .inl ⟨by rw [hE]; simp, by rw [hE]; rfl⟩⟩
    refine (next_y HK.out HS2.out (by omega)).mono ?_
    rintro e w3 ⟨rfl, hC3, hS3⟩
    have HC3 := Lib.hid (HC2.out.trans hC3)
    have HS3 := Lib.hid hS3
    obtain ⟨k, rfl⟩ : ∃ K', k = K' + 1 := ⟨k - 1, by omega⟩
    have HQ0 := Lib.hid hq0
    clear hq0
    have hn := HD.out p
    have hv := HD.out (p + 1)
    obtain ⟨n, hnn⟩ : ∃ n, n = d p := ⟨_, rfl⟩
    obtain ⟨v, hvv⟩ : ∃ v, v = d (p + 1) := ⟨_, rfl⟩
    rw [← hnn] at hn ⊢
    rw [← hvv] at hv ⊢
    have HN := Lib.hid hnn
    have HV := Lib.hid hvv
    have hsh : ¬m < p + 2 := by omega
    clear hC3 hS3 HC2 HS2 hnn hvv
    by_cases h3 : 0 < n
    · go_wp2_with fail
      obtain ⟨Q, hQ⟩ : ∃ Q, Q = putsB W H L y1 (fun j => some (nib kind v j)) n 0 x1 c1 := ⟨_, rfl⟩
      have hE1 := hE.out
      rw [runs_run hsh (by rw [← HN.out]; exact h3) Q (by rw [hQ, HN.out, HV.out])] at hE1
      have HE := Lib.hid hE1
      clear hE hE1
      refine (run_s n v hn hv HK.out HS3.out Q hQ).mono ?_
      rintro e w4 ⟨hC4, ⟨hb, hp4⟩ | ⟨hb, rfl, hS4⟩⟩
      · obtain rfl := hp4
        have hE := HE.out
        rw [if_pos hb] at hE
        dsimp +zetaDelta only [Exit.inBlock, Exit.then, bodyPost]
        exact ⟨rfl, HC3.out.trans hC4, .inl ⟨by rw [hE]; exact hb, by rw [hE]; rfl⟩⟩
      · have hE := HE.out
        rw [if_neg (by omega)] at hE
        have HE2 := Lib.hid hE
        have HS4 := Lib.hid hS4
        have HC4 := Lib.hid (HC3.out.trans hC4)
        have hx4 : Q.1 ≤ 512 := puts_le hQ (by omega)
        clear hE HE hS4 hC4 HC3 HS3 hQ
        go_wp2_with fail
        go_roundg k
        case measure => rw [HQ0.out]; omega
        case rel => exact ⟨k, p + 2, Q.1, y1, _, rfl, by omega, by omega, hx4, by omega, HC4.out, HS4.out, HE2⟩
    obtain rfl : n = 0 := by omega
    by_cases h4 : v = 0
    · subst h4
      have hE1 := hE.out
      rw [runs_line hsh HN.out.symm HV.out.symm] at hE1
      have HE := Lib.hid hE1
      obtain ⟨cs, hq⟩ := HS3.out
      have c18 := hp_cell (j := 18) hq.hS.hR hq.hS.q18
      have fz := hp_froz hq.hS.hR
      have hs := heap_set (i := 18) (x := .int .i64 0) hq.hS.hR
      have d19 := hp_cell (j := 19) hs ((setB_get (by omega)).trans hq.hS.q19)
      have fz2 := hp_froz hs
      have hC4 : Chg [g] w3 ((w3.setCell ⟨g, 18, none⟩ (.int .i64 0)).setCell ⟨g, 19, none⟩ (.int .i64 ((y1 : Int) + 1))) := ((Chg.refl [g] w3).set (.inl (by simp)) 18 _).set (.inl (by simp)) 19 _
      have hS4 := RdW.own HK.out hq hC4 (p' := p + 2) (x' := 0) (y' := y1 + 1) (cs' := (cs.setIfInBounds 18 (.int .i64 0)).setIfInBounds 19 (.int .i64 ((y1 : Int) + 1))) (fun j hj => by rw [setB_get (by omega), setB_get (by omega)]) (by simp [hq.hcs]) (by rw [setB_get (by omega), setB_get (by omega)]; exact hq.q17) (by rw [setB_get (by omega)]; exact setB_same hq.hS.q18) (by rw [setB_same (u := .int .i64 (y1 : Nat)) ((setB_get (by omega)).trans hq.hS.q19)]; rfl) (heap_set hs)
      have HC4 := Lib.hid (HC3.out.trans (hC4.mono (T := [g, ga]) (by simp)))
      have HS4 := Lib.hid hS4
      clear hE hE1 hq hs hC4 hS4 HC3 HS3
      go_wp2_with fail
      go_roundg k
      case measure => rw [HQ0.out]; omega
      case rel => exact ⟨k, p + 2, 0, y1 + 1, _, rfl, by omega, by omega, by omega, by omega, HC4.out, HS4.out, HE⟩
    by_cases h5 : v = 1
    · subst h5
      have hE1 := hE.out
      rw [runs_end hsh HN.out.symm HV.out.symm] at hE1
      have HE := Lib.hid hE1
      clear hE hE1
      go_wp2_with fail
      refine bodyPost_ret (v := .tuple #[]) (by simp [results, Tryd.results46, go_sem]) rfl ?_
      rw [HE.out]
      exact ⟨HC3.out, .inr ⟨rfl, rfl, p + 2, x1, y1, HS3.out⟩⟩
    by_cases h6 : v = 2
    · subst h6
      have hE1 := hE.out
      rw [runs_step hsh HN.out.symm HV.out.symm] at hE1
      have HE := Lib.hid hE1
      clear hE hE1
      go_wp2_with fail
      refine (step_s hx (by omega) HK.out HS3.out).mono ?_
      rintro e w4 ⟨hC4, ⟨hb, hp4⟩ | ⟨hb, hb2, hp4⟩ | ⟨hb, hb2, rfl, hS4⟩⟩
      · obtain rfl := hp4
        have hE := HE.out
        rw [if_pos hb] at hE
        dsimp +zetaDelta only [Exit.inBlock, Exit.then, bodyPost]
        exact ⟨rfl, HC3.out.trans hC4, .inl ⟨by rw [hE]; simp, by rw [hE]; rfl⟩⟩
      · obtain rfl := hp4
        have hE := HE.out
        rw [if_neg (by omega), if_pos hb2] at hE
        dsimp +zetaDelta only [Exit.inBlock, Exit.then, bodyPost]
        exact ⟨rfl, HC3.out.trans hC4, .inl ⟨by rw [hE]; simp, by rw [hE]; rfl⟩⟩
      · have hE := HE.out
        rw [if_neg (by omega), if_neg hb2] at hE
        simp only [show p + 1 + 1 = p + 2 from rfl] at hb2 hS4
        have HE2 := Lib.hid hE
        have HS4 := Lib.hid hS4
        have HC4 := Lib.hid (HC3.out.trans hC4)
        clear hE HE hS4 hC4 HC3 HS3
        go_wp2_with fail
        go_roundg k
        case measure => rw [HQ0.out]; omega
        case rel => exact ⟨k, p + 2 + 2, x1 + d (p + 2), y1 + d (p + 2 + 1), _, rfl, by omega, by omega, by omega, by omega, HC4.out, HS4.out, HE2⟩
    obtain ⟨Q, hQ⟩ : ∃ Q, Q = putsB W H L y1 (oneB m kind (p + 2) d) v 0 x1 c1 := ⟨_, rfl⟩
    have hE1 := hE.out
    rw [runs_one hsh HN.out.symm (by rw [← HV.out]; omega) Q (by rw [hQ, HV.out]), ← HV.out] at hE1
    have HE := Lib.hid hE1
    clear hE hE1
    go_wp2_with fail
    refine (single_any g ga W H n4 cap' kind m cap A AC cc L d v (p + 2) x1 y1 c1 w3 hv (by omega) HK.out HS3.out Q hQ).mono ?_
    have hx4 : Q.1 ≤ 512 := puts_le hQ (by omega)
    have hus : usedB kind v ≤ v := by unfold usedB; split <;> omega
    obtain ⟨u, hu⟩ : ∃ u, u = usedB kind v := ⟨_, rfl⟩
    rintro e w4 ⟨hC4, ⟨hb, hp4⟩ | ⟨hb, ⟨ho, ho2, hp4⟩ | ⟨rfl, hS4⟩⟩⟩
    · obtain rfl := hp4
      have hE := HE.out
      rw [if_pos hb] at hE
      dsimp +zetaDelta only [Exit.inBlock, Exit.then, bodyPost]
      exact ⟨rfl, HC3.out.trans hC4, .inl ⟨by rw [hE]; exact hb, by rw [hE]; rfl⟩⟩
    · obtain rfl := hp4
      have hE := HE.out
      rw [if_neg (by omega), runs_short (by omega)] at hE
      dsimp +zetaDelta only [Exit.inBlock, Exit.then, bodyPost]
      exact ⟨rfl, HC3.out.trans hC4, .inl ⟨by rw [hE]; simp, by rw [hE]; rfl⟩⟩
    · have hE := HE.out
      rw [if_neg (by omega)] at hE
      rw [← hu] at hE hS4 hus
      have HE2 := Lib.hid hE
      have HS4 := Lib.hid hS4
      have HC4 := Lib.hid (HC3.out.trans hC4)
      clear hE HE hS4 hC4 HC3 HS3 hQ hu
      go_wp2_with fail
      go_roundg k
      case measure => rw [HQ0.out]; omega
      case rel => exact ⟨k, p + 2 + (u + u % 2), Q.1, y1, _, rfl, by omega, by omega, hx4, by omega, HC4.out, HS4.out, HE2⟩
end Go.Proofs.YthgafdbdmemkhaaDoor

namespace Go.Proofs.YthgafdbdmemkhaaDoor
set_option maxRecDepth 100000
set_option linter.unusedVariables false
open Go.ChangeShapes Go.WideShapes Go.ChangeAt Go.RowKit

def bits6 (bits : Nat) : Prop := bits = 1 ∨ bits = 4 ∨ bits = 8 ∨ bits = 16 ∨ bits = 24 ∨ bits = 32
theorem pixel_any {g m cap : Nat} {A : Option Addr} {d f : Nat → Nat} {AC : Option Addr} {cc : Nat} {L : List P4} {w : World} {bits : Nat} (hb : bits6 bits) (h : PxS g m cap A d f bits AC cc L w) (hd : ∀ i, d i < 256) (hf : ∀ i, f i < 4294967296) (hk : bits = 16 ∨ bits = 32 → ∀ j, j < 4 → (runM (f j)).2.2 = true ∨ j = 3) (hmc : m ≤ cap) (hcap : cap ≤ maxLen) (hL : L.length ≤ 256) (hm : m ≤ 262144) (p i : Nat) (hi : i ≤ 256) (hp : p + (i * bits + bits + 7) / 8 ≤ m) :
    Calls Tryd.prog 61 #[.pointer (some ⟨g, 0, none⟩), .int .i64 (p : Nat), .int .i64 (i : Nat)] w (pxPost (bmPx d bits f L p i) w) := by
  rcases hb with rfl | rfl | rfl | rfl | rfl | rfl
  · exact pixel_1 h hd hL hm p i hi hp
  · exact pixel_4 h hd hL hm p i hi hp
  · exact pixel_8 h hd hL hm p i hi hp
  · refine (pixel_16 h hd hf (hk (.inl rfl)) hm p i (by omega)).mono ?_
    rintro e w' ⟨he, hB⟩
    exact ⟨hB, .inr ⟨_, by simp [bmPx], he⟩⟩
  · refine (pixel_24 h hd hmc hcap hm p i (by omega)).mono ?_
    rintro e w' ⟨he, hB⟩
    exact ⟨hB, .inr ⟨_, by simp [bmPx], he⟩⟩
  · refine (pixel_32 h hd hf (hk (.inr rfl)) hm p i (by omega)).mono ?_
    rintro e w' ⟨he, hB⟩
    exact ⟨hB, .inr ⟨_, by simp [bmPx], he⟩⟩
theorem TabW.chg {S : List Nat} {w w' : World} (h : TabW w) (hc : Chg S w w') (h0 : 0 ∉ S) : TabW w' := ⟨Nat.lt_of_lt_of_le h.1 hc.size, fun j hj => cell_chg hc h0 (h.2 j hj)⟩
theorem PxS.chg {S : List Nat} {g m cap : Nat} {A : Option Addr} {d f : Nat → Nat} {bits : Nat} {AC : Option Addr} {cc : Nat} {L : List P4} {w w' : World} (h : PxS g m cap A d f bits AC cc L w) (hc : Chg S w w') (hg : g ∉ S) (h0 : 0 ∉ S) (hA : ∀ a, A = some a → a.block ∉ S) (hAC : ∀ a, AC = some a → a.block ∉ S) : PxS g m cap A d f bits AC cc L w' :=
  ⟨cell_chg hc hg h.c0, cell_chg hc hg h.c6, cell_chg hc hg h.c9, cell_chg hc hg h.c10, cell_chg hc hg h.c11, cell_chg hc hg h.c12, cell_chg hc hg h.c13, h.hB.chg hc (fun _ => hA), h.hS.chg hc hAC, h.hT.chg hc h0⟩
/-- Pixels drawn from the t-th on: the samples, the error. -/
def rowR (px : Nat → Option P4) (pos : Nat → Nat) (k t : Nat) (c : Nat → Nat) : (Nat → Nat) × Nat := match drawB px pos k t c with
  | none => (noB, 4)
  | some c => (c, 0)
theorem rowR_0 {px : Nat → Option P4} {pos : Nat → Nat} {t : Nat} {c : Nat → Nat} : rowR px pos 0 t c = (c, 0) := rfl
theorem rowR_no {px : Nat → Option P4} {pos : Nat → Nat} {k t : Nat} {c : Nat → Nat} (h : px t = none) : rowR px pos (k + 1) t c = (noB, 4) := by
  rw [rowR, drawB, h]
theorem rowR_yes {px : Nat → Option P4} {pos : Nat → Nat} {k t : Nat} {c : Nat → Nat} {p : P4} (h : px t = some p) : rowR px pos (k + 1) t c = rowR px pos k (t + 1) (setC c (pos t) p) := by
  rw [rowR, drawB, h]
  rfl
def pxR (d : Nat → Nat) (W bits off : Nat) (f : Nat → Nat) (L : List P4) (t : Nat) : Option P4 := bmPx d bits f L (off + t / W * bmWide W bits) (t % W)
def posR (W H : Nat) (down : Bool) (t : Nat) : Nat := bmY H down (t / W) * W + t % W
theorem bmRows_eq (d : Nat → Nat) (m W H bits off : Nat) (down : Bool) (f : Nat → Nat) (L : List P4) : bmRows d m W H bits off down f L = if m - off < bmWide W bits * H then (noB, 2) else rowR (pxR d W bits off f L) (posR W H down) (W * H) 0 noB := by
  unfold bmRows rowR
  split <;> rfl
theorem div_row {W k i : Nat} (hi : i < W) : (k * W + i) / W = k := by
  rw [Nat.mul_comm, Nat.mul_add_div (by omega), Nat.div_eq_of_lt hi, Nat.add_zero]
theorem mod_row {W k i : Nat} (hi : i < W) : (k * W + i) % W = i := by
  rw [Nat.mul_comm, Nat.mul_add_mod, Nat.mod_eq_of_lt hi]
theorem pxR_at {d : Nat → Nat} {W bits off : Nat} {f : Nat → Nat} {L : List P4} {k i : Nat} (hi : i < W) : pxR d W bits off f L (k * W + i) = bmPx d bits f L (off + k * bmWide W bits) i := by
  unfold pxR
  rw [div_row hi, mod_row hi]
theorem posR_at {W H : Nat} {down : Bool} {k i : Nat} (hi : i < W) : posR W H down (k * W + i) = bmY H down k * W + i := by
  unfold posR
  rw [div_row hi, mod_row hi]
theorem wide_le {W bits : Nat} (hW : W ≤ 256) (hb : bits6 bits) : bmWide W bits ≤ 1024 ∧ W * bits ≤ 8192 := by
  rcases hb with rfl | rfl | rfl | rfl | rfl | rfl <;> (unfold bmWide; omega)
theorem wide_in {W bits i : Nat} (hb : bits6 bits) (hi : i < W) : (i * bits + bits + 7) / 8 ≤ bmWide W bits := by
  rcases hb with rfl | rfl | rfl | rfl | rfl | rfl <;> (unfold bmWide; omega)
theorem row_in {V H k off m : Nat} (h : ¬m - off < V * H) (hk : k < H) (hoff : off ≤ m) : off + k * V + V ≤ m := by
  have h1 : (k + 1) * V ≤ H * V := Nat.mul_le_mul_right V hk
  rw [Nat.add_mul, Nat.one_mul] at h1
  rw [Nat.mul_comm] at h
  omega
end Go.Proofs.YthgafdbdmemkhaaDoor
