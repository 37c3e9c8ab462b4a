/- A picture that came in: its sides, its samples. Arrays that came in: two integers, a pixel. The plainest file cut, or with a byte that is none: plain law. BmpreadTold: the walk. -/
import Derived.Test.YtdooefnckdklmaaDoorM16
import Derived.Lib.SmallJoins
namespace Go.Proofs.YtdooefnckdklmaaDoor
set_option maxRecDepth 100000
set_option linter.unusedVariables false
open Go.ChangeShapes Go.WideShapes Go.ChangeAt Go.RowKit

section
variable {H : Type} {enc : TypeId × Value → H} {P : Program} {w : World}
/-- A slice in one cell: its elements' cells, and that each reads. -/
theorem open_sl1 {t e size fuel : Nat} {v : Value} {y : DataW H × List MemPlace} (ht : P.underlying t = some (.slice e)) (hsz : P.cellsOf e = size) (hpos : 0 < size)
    (hf : DataW.trod enc P w 0 (fun _ => true) true fuel t [v] = some y) :
    ∃ (n : Nat) (E : Nat → List Value), Sl w v size n ((List.range n).flatMap E) ∧ (∀ i, i < n → (E i).length = size) ∧
      (∀ i, i < n → ∃ fuel y, DataW.trod enc P w 0 (fun _ => true) true fuel e (E i) = some y) ∧ ∀ n' cap, v = .slice none n' cap → cap = 0 := by
  rcases Go.Deep.open_slice ht hf with ⟨hcs, _⟩ | ⟨a, len, cap, m, n, D, Pl, hcs, _, hl, hm, hmm, _, hx⟩
  · simp at hcs
    subst hcs
    exact ⟨0, fun _ => [], by simpa using Sl.nil w size, fun i hi => by omega, fun i hi => by omega, fun n' cap h => by injection h with _ _ h; exact h.symm⟩
  · simp at hcs
    subst hcs
    simp only [if_true] at hmm
    subst hmm
    have hx' : ∀ i, i < len → ∃ cs' : List Value, w.cells? 0 (a.add (i * P.cellsOf e)) (P.cellsOf e) = some cs' ∧ DataW.trod enc P w 0 (fun _ => true) true n e cs' = some (D i, Pl i) := fun i hi => hx i (by omega)
    obtain ⟨E, hE⟩ := Go.Deep.choose_lt (α := List Value) hx'
    have hlen : ∀ i, i < len → (E i).length = size := fun i hi => by
      obtain ⟨_, h2, _⟩ := World.cells?_some (hE i hi).1
      rw [← hsz]; exact h2
    have hcell : ∀ i j, i < len → j < size → w.cell? (a.add (i * size + j)) = (E i)[j]? := fun i j hi hj => by
      obtain ⟨_, h2, h3⟩ := World.cells?_some (hE i hi).1
      have hj' : j < P.cellsOf e := by rw [hsz]; exact hj
      have := h3 j hj'
      rw [Go.Deep.add_add, hsz] at this
      exact this
    refine ⟨len, E, ⟨flat_len E hlen, some a, _, rfl, hl, hm, fun hn => ?_⟩, hlen, fun i hi => ⟨n, _, (hE i hi).2⟩, fun n' cap' h => by cases h⟩
    have h00 := hcell 0 0 hn hpos
    have hs0 : (E 0)[0]? = some ((E 0)[0]'(by rw [hlen 0 hn]; exact hpos)) := List.getElem?_eq_getElem _
    rw [hs0] at h00
    have hspot : a.spot = none := by
      have e0 : a.add (0 * size + 0) = a := by simp [Addr.add]
      rw [e0] at h00
      unfold World.cell? at h00
      split at h00
      · split at h00
        · cases h00
        · rename_i hsp
          cases hs : a.spot with
          | none => rfl
          | some x => rw [hs] at hsp; simp at hsp
      · cases h00
    obtain ⟨b, off, sp⟩ := a
    simp only at hspot
    subst hspot
    have hb : b < w.heap.size := by
      have := World.block_lt_of_cell? w _ h00
      simpa [Addr.add] using this
    refine ⟨b, off, rfl, hb, fun j hj => ?_⟩
    have hi : j / size < len := Nat.div_lt_of_lt_mul (by rw [Nat.mul_comm]; exact hj)
    have hr : j % size < size := Nat.mod_lt _ hpos
    have hdm : j / size * size + j % size = j := by rw [Nat.mul_comm]; exact Nat.div_add_mod j size
    have h1 := hcell (j / size) (j % size) hi hr
    have h2 := flat_get (n := len) E hlen (j / size) (j % size) hi hr
    rw [hdm] at h1 h2
    rw [h2, ← h1, Addr.add_lit]
end
section
variable {H : Type} {enc : TypeId × Value → H} {W : World}
theorem struct25 : ∃ f0 f1 f2 : Field, Tryd.prog.underlying 26 = some (.struct #[f0, f1, f2]) ∧ Deep.oneCellFields Tryd.prog #[f0, f1, f2] = true ∧ f0.type = 3 ∧ f1.type = 3 ∧ f2.type = 24 :=
  ⟨_, _, _, Tryd.underlying26, by kernel_rfl, rfl, rfl, rfl⟩
theorem wf64 {a : Int} (h : (Lit.int .i64 a).wf = true) : In64 a := by
  unfold In64
  simpa [Lit.wf, IntKind.min, IntKind.max, IntKind.signed, IntKind.bits] using h
theorem wf16' {a : Int} (h : (Lit.int .u16 a).wf = true) : 0 ≤ a ∧ a ≤ 65535 := by
  simpa [Lit.wf, IntKind.min, IntKind.max, IntKind.signed, IntKind.bits] using h
theorem flat_one {n : Nat} (c : Nat → Nat) : (List.range n).flatMap (fun i => [Value.int .u16 (c i : Nat)]) = (List.range n).map fun i => Value.int .u16 (c i : Nat) := by
  induction n with
  | zero => rfl
  | succ n ih => rw [List.range_succ, List.flatMap_append, List.map_append, ih]; rfl
/-- Samples that came in. -/
theorem pix_of {A : Option Addr} {n cap : Nat} {E : Nat → List Value} (hS : Sl W (.slice A n cap) 1 n ((List.range n).flatMap E)) (hE : ∀ i, i < n → (E i).length = 1)
    (hr : ∀ i, i < n → ∃ fuel y, DataW.trod enc Tryd.prog W 0 (fun _ => true) true fuel 42 (E i) = some y) : ∃ c : Nat → Nat, (∀ i, c i < 65536) ∧ Pix W A n c := by
  have h1 : ∀ i, i < n → ∃ m : Nat, E i = [.int .u16 (m : Nat)] ∧ m < 65536 := fun i hi => by
    obtain ⟨fuel, y, hy⟩ := hr i hi
    obtain ⟨k, hk, _, hw⟩ := DataW.trod_int Tryd.underlying42 hy
    obtain ⟨q1, q2⟩ := wf16' hw
    obtain ⟨m, rfl⟩ := Int.eq_ofNat_of_zero_le q1
    exact ⟨m, hk, by omega⟩
  obtain ⟨c, hc⟩ := Go.Deep.choose_lt (α := Nat) h1
  refine ⟨fun i => if i < n then c i else 0, fun i => ?_, fun hn => ?_⟩
  · show (if i < n then c i else 0) < 65536
    split
    · exact (hc i ‹_›).2
    · omega
  · obtain ⟨b, off, rfl, hb, hcell⟩ := hS.cell hn
    refine ⟨b, off, rfl, hb, fun j hj => ?_⟩
    rw [hcell j (by omega)]
    have h2 := flat_get (n := n) E hE j 0 hj (by omega)
    rw [Nat.mul_one, Nat.add_zero] at h2
    rw [h2, (hc j hj).1]
    simp [hj]
theorem open_ras {r : Reach} {b0 : Nat} {v : Value} {d : DataW H} {p : List MemPlace} (hv : Value.okWide Tryd.prog W r b0 26 v) (h : DataW.Trod enc Tryd.prog W 0 (fun _ => true) true 26 v d p) :
    ∃ a b A n cap c, v = .agg #[.int .i64 a, .int .i64 b, .slice A n cap] ∧ In64 a ∧ In64 b ∧ n ≤ cap ∧ cap ≤ maxLen ∧ (A = none → cap = 0) ∧ Pix W A n c ∧ ∀ i, c i < 65536 := by
  obtain ⟨f0, f1, f2, hs, hone, t0, t1, t2⟩ := struct25
  obtain ⟨v0, v1, v2, y0, y1, y2, n, rfl, _, _, h0, h1, h2⟩ := Joins.open_agg3 hs hone (by kernel_rfl) hv h
  rw [t0] at h0
  rw [t1] at h1
  rw [t2] at h2
  obtain ⟨a, ha, _, hwa⟩ := DataW.trod_int Tryd.underlying3 h0
  obtain ⟨b, hb, _, hwb⟩ := DataW.trod_int Tryd.underlying3 h1
  obtain ⟨m, E, hS, hE, hr, hnone⟩ := open_sl1 Tryd.underlying24 (size := 1) (by kernel_rfl) (by decide) h2
  have hS2 := hS
  obtain ⟨_, A, cap, rfl, g1, g2, _⟩ := hS2
  obtain ⟨c, hc, hP⟩ := pix_of hS hE hr
  simp at ha hb
  subst ha hb
  exact ⟨a, b, A, m, cap, c, rfl, wf64 hwa, wf64 hwb, g1, g2, fun h => by subst h; exact hnone _ _ rfl, hP, hc⟩
end
end Go.Proofs.YtdooefnckdklmaaDoor

namespace Go.Proofs.YtdooefnckdklmaaDoor
set_option maxRecDepth 100000
set_option linter.unusedVariables false
open Go.ChangeShapes Go.WideShapes Go.ChangeAt Go.RowKit

section
variable {H : Type} {enc : TypeId × Value → H} {W : World} {P : Program}
theorem okWide_arr {r : Reach} {b0 n : Nat} {t e : TypeId} {v : Value} (ht : P.underlying t = some (.array n e)) (h : Value.okWide P W r b0 t v) : ∃ cs, v = .agg cs ∧ cs.size = P.cellsOf t := by
  simp only [Value.okWide, ht] at h
  obtain ⟨cs, h1, h2, _⟩ := h
  exact ⟨cs, h1, h2⟩
theorem open_p4 {r : Reach} {b0 : Nat} {v : Value} {d : DataW H} {p : List MemPlace} (hv : Value.okWide Tryd.prog W r b0 43 v) (h : DataW.Trod enc Tryd.prog W 0 (fun _ => true) true 43 v d p) :
    ∃ q : P4, v = .agg #[.int .u16 (q.1 : Nat), .int .u16 (q.2.1 : Nat), .int .u16 (q.2.2.1 : Nat), .int .u16 (q.2.2.2 : Nat)] ∧ w4 q := by
  obtain ⟨cs, rfl, hsz⟩ := okWide_arr Tryd.underlying43 hv
  rw [show Tryd.prog.cellsOf 43 = 4 from by kernel_rfl] at hsz
  obtain ⟨fuel, hf⟩ := h
  obtain ⟨xs, m, _, _, _, hx, hg⟩ := DataW.trod_array Tryd.underlying43 hf
  have c3 : Tryd.prog.cellsOf 42 = 1 := by kernel_rfl
  match cs, hsz with
  | ⟨[c0, c1, c2, c3']⟩, _ =>
    have g0 := hg 0 (by omega)
    have g1 := hg 1 (by omega)
    have g2 := hg 2 (by omega)
    have g3 := hg 3 (by omega)
    simp only [c3, Value.cells, List.drop_zero, Nat.one_mul, Nat.zero_mul, Nat.reduceMul, List.drop_succ_cons, List.take_succ_cons, List.take_zero] at g0 g1 g2 g3
    rw [List.getElem?_eq_getElem (by omega)] at g0 g1 g2 g3
    obtain ⟨a, ha, _, hwa⟩ := DataW.trod_int Tryd.underlying42 g0
    obtain ⟨b, hb, _, hwb⟩ := DataW.trod_int Tryd.underlying42 g1
    obtain ⟨c, hc, _, hwc⟩ := DataW.trod_int Tryd.underlying42 g2
    obtain ⟨d', hd, _, hwd⟩ := DataW.trod_int Tryd.underlying42 g3
    simp at ha hb hc hd
    subst ha hb hc hd
    have wa := wf16' hwa
    have wb := wf16' hwb
    have wc := wf16' hwc
    have wd := wf16' hwd
    obtain ⟨a, rfl⟩ := Int.eq_ofNat_of_zero_le wa.1
    obtain ⟨b, rfl⟩ := Int.eq_ofNat_of_zero_le wb.1
    obtain ⟨c, rfl⟩ := Int.eq_ofNat_of_zero_le wc.1
    obtain ⟨d', rfl⟩ := Int.eq_ofNat_of_zero_le wd.1
    exact ⟨(a, b, c, d'), rfl, by unfold w4; simp only; omega⟩
end
end Go.Proofs.YtdooefnckdklmaaDoor

namespace Go.Proofs.YtdooefnckdklmaaDoor
set_option maxRecDepth 100000
set_option linter.unusedVariables false
open Go.ChangeShapes Go.WideShapes Go.ChangeAt Go.RowKit

theorem bmG_err {d : Nat → Nat} {n k : Nat} (h : bmErr d n = k) (hk : k ≠ 0) : bmG d n = (noB, k) := by
  rw [bmG, h, if_pos hk]
section
variable {d c : Nat → Nat} {W H : Nat}
/-- What is fine with it: it holds of files that are like it there. -/
structure PlF (d : Nat → Nat) (W H : Nat) : Prop where
  b0 : d 0 = 66
  b1 : d 1 = 77
  off : bmOff d = 122
  size : bmS d = 108
  wide : bmW d = (W : Nat)
  high : bmH d = (H : Nat)
  planes : lowD d 26 2 = 1
  bits : bmBits d = 32
  kind : bmK d = 3
  mask : bmMask d = mkL
theorem PlD.fine (h : PlD d c W H H) (hW : W ≤ 256) (hH : H ≤ 256) : PlF d W H :=
  ⟨h.b0, h.b1, h.off, h.size, by unfold bmW; rw [h.wide, sgnV, if_pos (by omega)], by unfold bmH; rw [h.high, sgnV, if_pos (by omega)], h.planes, h.bits, h.kind, h.mask⟩
theorem fine32 (H : Nat) : bmFine 32 3 (H : Nat) = true := by unfold bmFine; exact decide_eq_true ⟨by omega, by omega, by omega, by omega, by omega⟩
theorem PlF.head (h : PlF d W H) (hW : 1 ≤ W) (hH : 1 ≤ H) (hz : sizeE (W : Nat) (H : Nat) = 0) (n : Nat) (hn : 122 ≤ n) : headE d n = 0 :=
  headE_0 (by omega) ⟨h.b0, h.b1⟩ (by rw [h.size]; omega) (by rw [h.size]; omega) ⟨h.planes, by rw [h.wide]; omega, by rw [h.high]; omega, by rw [h.bits, h.kind, h.high]; exact fine32 H⟩ (by rw [h.wide, h.high]; exact not_not_intro hz)
theorem PlF.sw (h : PlF d W H) (n : Nat) (hn : 122 ≤ n) : swE d n = 0 := by
  have hm : bmMany d = 4 := by rw [bmMany, if_pos h.size]
  have hb := h.bits
  rw [swE, if_neg (by omega), if_neg (by rw [h.mask, hb, masks_L]; simp), if_neg (by omega), if_neg (by omega)]
theorem PlF.e2 (h : PlF d W H) : bmE2 d = 122 := by
  have hb := h.bits
  have hs := h.size
  have he1 : bmE1 d = 122 := by rw [bmE1, hs, if_neg (by omega)]
  rw [bmE2, he1, if_neg (by omega)]
theorem told_cut (h : PlF d W H) (hW : 1 ≤ W) (hH : 1 ≤ H) (hz : sizeE (W : Nat) (H : Nat) = 0) (n : Nat) (hn : n < 122 + 4 * W * H) (hm : n ≤ 262144) : (bmG d n).2 = 2 := by
  by_cases h1 : n < 122
  · have he : headE d n = 2 := by
      by_cases h2 : n < 54
      · exact headE_1 h2
      · exact headE_4 h2 ⟨h.b0, h.b1⟩ (by rw [h.size]; omega) (by rw [h.size]; omega)
    rw [bmG_err (k := 2) (by rw [bmErr_eq d n (by omega), he]; rfl) (by omega)]
  · have he : bmErr d n = 0 := by
      have ho := h.off
      have h2 := h.e2
      rw [bmErr_eq d n (by omega), h.head hW hH hz n (by omega), h.sw n (by omega), if_neg (by simp), if_neg (by simp), offE, if_neg (by omega), if_neg (by omega)]
    have hk := h.kind
    have hwd : bmWide W 32 = 4 * W := by unfold bmWide; omega
    rw [bmG, he, if_neg (by simp), if_neg (by omega), h.wide, h.high, h.bits, h.off, Int.toNat_natCast, Int.natAbs_natCast, bmRows_eq, hwd, if_pos (by omega)]
/-- The file with a byte that is none. -/
def tB (d : Nat → Nat) (k : Nat) : Nat → Nat :=
  if k = 0 then up1 d 26 2 else if k = 1 then up1 d 28 31 else if k = 2 then up1 (up1 d 18 1) 19 1 else if k = 3 then up1 d 54 0 else if k = 4 then up1 d 58 255 else if k = 5 then up1 d 14 41 else up1 d 10 121
def wantB (k : Nat) : Nat := if k = 2 then 6 else 4
theorem up_oth {d : Nat → Nat} {i v j : Nat} (h : j ≠ i) : up1 d i v j = d j := by
  unfold up1
  rw [if_neg h]
theorem up_at {d : Nat → Nat} {i v : Nat} : up1 d i v i = v := by
  unfold up1
  rw [if_pos rfl]
theorem up_low {d : Nat → Nat} {i v p k : Nat} (h : i < p ∨ p + k ≤ i) : lowD (up1 d i v) p k = lowD d p k := lowD_congr k p (fun j a b => up_oth (by omega))
theorem run_65535 : runM 65535 = (0, 16, true) := by decide +kernel
/-- One byte is another, far from all else. -/
theorem PlF.mk_of {d' : Nat → Nat} (h : PlF d W H) (h0 : d' 0 = d 0) (h1 : d' 1 = d 1) (e10 : lowD d' 10 4 = lowD d 10 4) (e14 : lowD d' 14 4 = lowD d 14 4) (e18 : lowD d' 18 4 = lowD d 18 4) (e22 : lowD d' 22 4 = lowD d 22 4) (e26 : lowD d' 26 2 = lowD d 26 2) (e28 : lowD d' 28 2 = lowD d 28 2) (e30 : lowD d' 30 4 = lowD d 30 4) (em : bmMask d' = bmMask d) : PlF d' W H :=
  ⟨by rw [h0]; exact h.b0, by rw [h1]; exact h.b1, by unfold bmOff; rw [e10]; exact h.off, by unfold bmS; rw [e14]; exact h.size, by unfold bmW; rw [e18]; exact h.wide, by unfold bmH; rw [e22]; exact h.high, by rw [e26]; exact h.planes, by unfold bmBits; rw [e28]; exact h.bits, by unfold bmK; rw [e30]; exact h.kind, by rw [em]; exact h.mask⟩
theorem mask_same {d' : Nat → Nat} (hK : bmK d' = bmK d) (hS : bmS d' = bmS d) (hb : bmBits d' = bmBits d) (hl : ∀ i, i < 4 → lowD d' (54 + 4 * i) 4 = lowD d (54 + 4 * i) 4) : bmMask d' = bmMask d := by
  have hm : bmMany d' = bmMany d := by unfold bmMany; rw [hS]
  have h4 : bmMany d ≤ 4 := by unfold bmMany; split <;> omega
  funext i
  unfold bmMask
  rw [hK, hm, hb]
  by_cases hi : bmK d = 3 ∧ i < bmMany d
  · rw [if_pos hi, if_pos hi]
    exact hl i (by omega)
  · rw [if_neg hi, if_neg hi]
theorem told_bad (h : PlD d c W H H) (hd : ∀ i, d i < 256) (hW : 1 ≤ W ∧ W ≤ 256) (hH : 1 ≤ H ∧ H ≤ 256) (hz : sizeE (W : Nat) (H : Nat) = 0) (n : Nat) (hn : 122 ≤ n) (hm : n ≤ 262144) (k : Nat) : (bmG (tB d k) n).2 = wantB k := by
  have hf := h.fine hW.2 hH.2
  have l4 := fun p => lowD_four d p
  unfold tB wantB
  by_cases k0 : k = 0
  · rw [if_pos k0, if_neg (by omega)]
    have h26 : ¬lowD (up1 d 26 2) 26 2 = 1 := by
      simp only [lowD, up_at]
      omega
    have hs : bmS (up1 d 26 2) = 108 := by unfold bmS; rw [up_low (by omega)]; exact h.size
    have he := headE_5 (d := up1 d 26 2) (m := n) (by omega) ⟨by rw [up_oth (by omega)]; exact h.b0, by rw [up_oth (by omega)]; exact h.b1⟩ (by rw [hs]; omega) (by rw [hs]; omega) (fun q => h26 q.1)
    rw [bmG_err (k := 4) (by rw [bmErr_eq _ n (by omega), he]; rfl) (by omega)]
  rw [if_neg k0]
  by_cases k1 : k = 1
  · rw [if_pos k1, if_neg (by omega)]
    have h28 : ¬bmFine (bmBits (up1 d 28 31)) (bmK (up1 d 28 31)) (bmH (up1 d 28 31)) = true := by
      intro q
      have hb := (fine_bits q).1
      unfold bits6 bmBits at hb
      simp only [lowD, up_at] at hb
      omega
    have hs : bmS (up1 d 28 31) = 108 := by unfold bmS; rw [up_low (by omega)]; exact h.size
    have he := headE_5 (d := up1 d 28 31) (m := n) (by omega) ⟨by rw [up_oth (by omega)]; exact h.b0, by rw [up_oth (by omega)]; exact h.b1⟩ (by rw [hs]; omega) (by rw [hs]; omega) (fun q => h28 q.2.2.2)
    rw [bmG_err (k := 4) (by rw [bmErr_eq _ n (by omega), he]; rfl) (by omega)]
  rw [if_neg k1]
  by_cases k2 : k = 2
  · rw [if_pos k2, if_pos k2]
    have w1 := h.wide
    rw [l4] at w1
    have o : ∀ p q, (p + q ≤ 18 ∨ 20 ≤ p) → lowD (up1 (up1 d 18 1) 19 1) p q = lowD d p q := fun p q hpq => by rw [up_low (by omega), up_low (by omega)]
    have hs : bmS (up1 (up1 d 18 1) 19 1) = 108 := by unfold bmS; rw [o _ _ (by omega)]; exact h.size
    have hw : bmW (up1 (up1 d 18 1) 19 1) = 257 := by
      unfold bmW
      rw [lowD_four, up_at, up_oth (by omega), up_at, up_oth (by omega), up_oth (by omega), up_oth (by omega), up_oth (by omega), sgnV]
      have := hd 18
      have := hd 19
      have := hd 20
      have := hd 21
      rw [if_pos (by omega)]
      omega
    have hh : bmH (up1 (up1 d 18 1) 19 1) = (H : Nat) := by unfold bmH; rw [o _ _ (by omega)]; exact hf.high
    have hb : bmBits (up1 (up1 d 18 1) 19 1) = 32 := by unfold bmBits; rw [o _ _ (by omega)]; exact h.bits
    have hk : bmK (up1 (up1 d 18 1) 19 1) = 3 := by unfold bmK; rw [o _ _ (by omega)]; exact h.kind
    have he := headE_6 (d := up1 (up1 d 18 1) 19 1) (m := n) (by omega) ⟨by rw [up_oth (by omega), up_oth (by omega)]; exact h.b0, by rw [up_oth (by omega), up_oth (by omega)]; exact h.b1⟩ (by rw [hs]; omega) (by rw [hs]; omega) ⟨by rw [o _ _ (by omega)]; exact h.planes, by rw [hw]; omega, by rw [hh]; omega, by rw [hb, hk, hh]; exact fine32 H⟩ (by
      rw [hw, hh, Int.natAbs_natCast]
      unfold sizeE
      rw [if_neg (by omega), if_pos (by omega)]
      omega)
    rw [bmG_err (k := 6) (by rw [bmErr_eq _ n (by omega), he]; rfl) (by omega)]
  rw [if_neg k2, if_neg k2]
  by_cases k3 : k = 3
  · rw [if_pos k3]
    have w1 := h.masks 0 (by omega)
    rw [l4] at w1
    simp only [mkL, if_true, Nat.mul_zero, Nat.add_zero] at w1
    have hs : bmS (up1 d 54 0) = 108 := by unfold bmS; rw [up_low (by omega)]; exact h.size
    have hk : bmK (up1 d 54 0) = 3 := by unfold bmK; rw [up_low (by omega)]; exact h.kind
    have hmy : bmMany (up1 d 54 0) = 4 := by rw [bmMany, if_pos hs]
    have hm0 : bmMask (up1 d 54 0) 0 = 0 := by
      rw [bmMask, if_pos ⟨hk, by omega⟩, lowD_four]
      simp only [Nat.mul_zero, Nat.add_zero]
      rw [up_at, up_oth (by omega), up_oth (by omega), up_oth (by omega)]
      have := hd 54
      omega
    have he : headE (up1 d 54 0) n = 0 := headE_0 (by omega) ⟨by rw [up_oth (by omega)]; exact h.b0, by rw [up_oth (by omega)]; exact h.b1⟩ (by rw [hs]; omega) (by rw [hs]; omega) ⟨by rw [up_low (by omega)]; exact h.planes, by unfold bmW; rw [up_low (by omega)]; have := hf.wide; unfold bmW at this; omega, by unfold bmH; rw [up_low (by omega)]; have := hf.high; unfold bmH at this; omega, by unfold bmBits bmH; rw [hk, up_low (by omega), up_low (by omega)]; have := hf.high; unfold bmH at this; rw [this, h.bits]; exact fine32 H⟩ (by unfold bmW bmH; rw [up_low (by omega), up_low (by omega)]; have a1 := hf.wide; have a2 := hf.high; unfold bmW at a1; unfold bmH at a2; rw [a1, a2]; exact not_not_intro hz)
    have hsw : swE (up1 d 54 0) n = 4 := by
      rw [swE, if_neg (by omega), if_pos ⟨hk, masksB_f (i := 0) (by omega) (by rw [msOk, hm0, runM_zero]; rfl)⟩]
    rw [bmG_err (k := 4) (by rw [bmErr_eq _ n (by omega), he, hsw]; rfl) (by omega)]
  rw [if_neg k3]
  by_cases k4 : k = 4
  · rw [if_pos k4]
    have w1 := h.masks 1 (by omega)
    rw [l4] at w1
    simp [mkL] at w1
    have hs : bmS (up1 d 58 255) = 108 := by unfold bmS; rw [up_low (by omega)]; exact h.size
    have hk : bmK (up1 d 58 255) = 3 := by unfold bmK; rw [up_low (by omega)]; exact h.kind
    have hmy : bmMany (up1 d 58 255) = 4 := by rw [bmMany, if_pos hs]
    have hm0 : bmMask (up1 d 58 255) 1 = 65535 := by
      rw [bmMask, if_pos ⟨hk, by omega⟩, lowD_four]
      simp only [Nat.mul_one, Nat.reduceAdd]
      rw [up_at, up_oth (by omega), up_oth (by omega), up_oth (by omega)]
      have := hd 58
      omega
    have he : headE (up1 d 58 255) n = 0 := headE_0 (by omega) ⟨by rw [up_oth (by omega)]; exact h.b0, by rw [up_oth (by omega)]; exact h.b1⟩ (by rw [hs]; omega) (by rw [hs]; omega) ⟨by rw [up_low (by omega)]; exact h.planes, by unfold bmW; rw [up_low (by omega)]; have := hf.wide; unfold bmW at this; omega, by unfold bmH; rw [up_low (by omega)]; have := hf.high; unfold bmH at this; omega, by unfold bmBits bmH; rw [hk, up_low (by omega), up_low (by omega)]; have := hf.high; unfold bmH at this; rw [this, h.bits]; exact fine32 H⟩ (by unfold bmW bmH; rw [up_low (by omega), up_low (by omega)]; have a1 := hf.wide; have a2 := hf.high; unfold bmW at a1; unfold bmH at a2; rw [a1, a2]; exact not_not_intro hz)
    have hsw : swE (up1 d 58 255) n = 4 := by
      rw [swE, if_neg (by omega), if_pos ⟨hk, masksB_f (i := 1) (by omega) (by rw [msOk, hm0, run_65535]; rfl)⟩]
    rw [bmG_err (k := 4) (by rw [bmErr_eq _ n (by omega), he, hsw]; rfl) (by omega)]
  rw [if_neg k4]
  by_cases k5 : k = 5
  · rw [if_pos k5]
    have w1 := h.size
    rw [l4] at w1
    have hs : ¬(bmS (up1 d 14 41) = 40 ∨ bmS (up1 d 14 41) = 108) := by
      unfold bmS
      rw [lowD_four, up_at, up_oth (by omega), up_oth (by omega), up_oth (by omega)]
      have := hd 14
      omega
    have he := headE_3 (d := up1 d 14 41) (m := n) (by omega) ⟨by rw [up_oth (by omega)]; exact h.b0, by rw [up_oth (by omega)]; exact h.b1⟩ hs
    rw [bmG_err (k := 4) (by rw [bmErr_eq _ n (by omega), he]; rfl) (by omega)]
  rw [if_neg k5]
  have w1 := h.off
  rw [l4] at w1
  have ho : bmOff (up1 d 10 121) = 121 := by
    unfold bmOff
    rw [lowD_four, up_at, up_oth (by omega), up_oth (by omega), up_oth (by omega)]
    have := hd 10
    omega
  have hk : bmK (up1 d 10 121) = bmK d := by unfold bmK; rw [up_low (by omega)]
  have hs : bmS (up1 d 10 121) = bmS d := by unfold bmS; rw [up_low (by omega)]
  have hb : bmBits (up1 d 10 121) = bmBits d := by unfold bmBits; rw [up_low (by omega)]
  have he : headE (up1 d 10 121) n = 0 := headE_0 (by omega) ⟨by rw [up_oth (by omega)]; exact h.b0, by rw [up_oth (by omega)]; exact h.b1⟩ (by rw [hs, hf.size]; omega) (by rw [hs, hf.size]; omega) ⟨by rw [up_low (by omega)]; exact h.planes, by unfold bmW; rw [up_low (by omega)]; have := hf.wide; unfold bmW at this; omega, by unfold bmH; rw [up_low (by omega)]; have := hf.high; unfold bmH at this; omega, by unfold bmH; rw [hb, hk, up_low (by omega)]; have := hf.high; unfold bmH at this; rw [this, hf.bits, hf.kind]; exact fine32 H⟩ (by unfold bmW bmH; rw [up_low (by omega), up_low (by omega)]; have a1 := hf.wide; have a2 := hf.high; unfold bmW at a1; unfold bmH at a2; rw [a1, a2]; exact not_not_intro hz)
  have hmk : bmMask (up1 d 10 121) = mkL := (mask_same hk hs hb (fun i hi => up_low (by omega))).trans hf.mask
  have hmy : bmMany (up1 d 10 121) = 4 := by rw [bmMany, if_pos (by rw [hs]; exact hf.size)]
  have hb2 := hf.bits
  have hs2 := hf.size
  have hsw : swE (up1 d 10 121) n = 0 := by rw [swE, if_neg (by omega), if_neg (by rw [hmk, hb, hb2, masks_L]; simp), if_neg (by omega), if_neg (by omega)]
  have he2 : bmE2 (up1 d 10 121) = 122 := by
    have he1 : bmE1 (up1 d 10 121) = 122 := by rw [bmE1, hs, hs2, if_neg (by omega)]
    rw [bmE2, he1, if_neg (by omega)]
  rw [bmG_err (k := 4) (by rw [bmErr_eq _ n (by omega), he, hsw, if_neg (by simp), if_neg (by simp), offE, if_pos (by omega)]) (by omega)]
end
end Go.Proofs.YtdooefnckdklmaaDoor

namespace Go.Proofs.YtdooefnckdklmaaDoor
set_option maxRecDepth 100000
set_option linter.unusedVariables false
open Go.ChangeShapes Go.WideShapes Go.ChangeAt Go.RowKit

theorem pic_nat {a b : Int} {n : Nat} {c : Nat → Nat} (h : fitsB a b n c 3 = true) : ∃ a' b' N : Nat, a = (a' : Int) ∧ b = (b' : Int) ∧ n = 4 * N ∧ a' * b' = N ∧ (1 ≤ a' ∧ a' ≤ 256) ∧ (1 ≤ b' ∧ b' ≤ 256) ∧ N ≤ 16384 ∧ sizeE a' b' = 0 ∧ ∀ i, i < 4 * N → c i % 257 = 0 := by
  have hm := fits_may h
  obtain ⟨hz, hn⟩ := may_ok hm
  obtain ⟨h1, h2, h3, h4, h5⟩ := size_ok hz
  obtain ⟨a', rfl⟩ := Int.eq_ofNat_of_zero_le (show 0 ≤ a by omega)
  obtain ⟨b', rfl⟩ := Int.eq_ofNat_of_zero_le (show 0 ≤ b by omega)
  have e1 : (a' : Int) * (b' : Int) = ((a' * b' : Nat) : Int) := by simp
  have e2 : 4 * (a' : Int) * (b' : Int) = 4 * ((a' * b' : Nat) : Int) := by rw [Int.mul_assoc, e1]
  have hb : bytesB n c = true := by simpa [fitsB, hm] using h
  obtain ⟨N, hN⟩ : ∃ N, N = a' * b' := ⟨_, rfl⟩
  rw [← hN] at e1 e2
  have hn4 : n = 4 * N := by omega
  refine ⟨a', b', N, rfl, rfl, hn4, hN.symm, ⟨by omega, by omega⟩, ⟨by omega, by omega⟩, by omega, hz, ?_⟩
  rw [← hn4]
  exact bytes_iff.1 hb
theorem run_hi (A : Option Addr) (n cap q : Nat) (hq : q ≤ cap) (W : World) :
    (Instr.sliceAt 22 (.slice A n cap) none (some (.int .i64 (q : Nat))) none).run Tryd.prog W = .ok (.slice A q cap) W := by
  rw [run_sliceAt_slice _ _ _ _ _ _ und_u8b, run_slice_h W 22 A n cap und_u8b .i64 (q : Nat) (by omega) (by omega), elem_u8b, size_u8b]
  by_cases h0 : cap = 0
  · simp [Result.andThen, sliced, h0]
  · cases A with
    | none => simp [Result.andThen, sliced, h0]
    | some a => obtain ⟨x, y, z⟩ := a; simp [Result.andThen, sliced, h0, Addr.add]
theorem gl_set {l : List Nat} {i v : Nat} (h : i < l.length) : gl (l.set i v) = up1 (gl l) i v := by
  funext j
  unfold gl up1
  rw [List.getElem?_set]
  by_cases hj : i = j
  · subst hj
    rw [if_pos rfl, if_pos h, if_pos rfl]
    rfl
  · rw [if_neg hj, if_neg (Ne.symm hj)]
/-- A copy of bytes. -/
theorem app_copy (w : World) (A : Option Addr) (n cap : Nat) (l : List Nat) (hl : l.length = n) (h0 : 0 < n) (h1 : n < 1000000) (hB : Byt w A n (gl l)) :
    ∃ g cap' w', (Builtin.append_ #[22, 22] 22 #[.slice (some ⟨w.heap.size, 0, none⟩) 0 0, .slice A n cap]).run Tryd.prog (w.alloc (.cells #[] 5)) = .ok (.slice (some ⟨g, 0, none⟩) n cap') w' ∧ w'.ownsRow w.heap.size 5 1 (.slice (some ⟨g, 0, none⟩) n cap') n (cellsB l) ∧ w.heap.size ≤ g ∧ g < w'.heap.size ∧ Below w.heap.size w w' := by
  obtain ⟨i0, hi0, hz0, hz1, hz2⟩ := info_parts info8
  have hal : Below w.heap.size w (w.alloc (.cells #[] 5)) := (Below.refl _ w).alloc (Nat.le_refl _) _
  have hown : (w.alloc (.cells #[] 5)).ownsRow w.heap.size 5 1 (.slice (some ⟨w.heap.size, 0, none⟩) 0 0) 0 [] :=
    ⟨rfl, .inr ⟨w.heap.size, 0, #[], rfl, Nat.le_refl _, hp_new0 w _, Nat.le_refl _, by simp [maxLen], rfl, rfl⟩⟩
  have hlen : (cellsB l).length = n * 1 := by rw [cellsB_len]; omega
  obtain ⟨v', w', hr, ho, hg, _⟩ := run_app (P := Tryd.prog) (w := w.alloc (.cells #[] 5)) w.heap.size 22 22 5 i0 (.int .u8 0) 1 1 Tryd.underlying22 hi0 hz0 hz1 hz2 rfl (by omega) (.slice (some ⟨w.heap.size, 0, none⟩) 0 0) 0 [] hown
    A n cap (cellsB l) (fun e => by obtain ⟨bk, of, h, _⟩ := hB h0; rw [e] at h; cases h) hlen (fun _ => by
      obtain ⟨bk, of, h, hlt, hc⟩ := hB h0
      refine ⟨bk, of, h, fun j u hj => ?_⟩
      have hjl := (List.getElem?_eq_some_iff.1 hj).1
      rw [cellsB_len] at hjl
      rw [(hal.cell (p := ⟨bk, of + j, none⟩) hlt).trans (hc j (by omega))]
      have : (cellsB l)[j]? = some (.int .u8 ((gl l j : Nat) : Int)) := by simp [cellsB, gl, hjl]
      rw [← hj, this]) (by intro u hu; obtain ⟨x, _, rfl⟩ := List.mem_map.1 hu; rfl) (by unfold maxLen; omega) (by omega) hal.size
  rw [Nat.zero_add, List.nil_append] at ho
  obtain ⟨hl2, h9 | ⟨g, cap', cur, rfl, hbg, hgg, hrest⟩⟩ := id ho
  · exact absurd h9.2 (by omega)
  refine ⟨g, cap', w', hr, ho, hbg, lt_heap hgg, ?_⟩
  exact hal.trans ((Chg.grown (S := [w.heap.size]) hg (fun r e => by cases e; simp)).below (by rw [World.size_alloc]; omega) (by simp))
theorem dec_err (k : Nat) (hk : k ≠ 0) (A : Option Addr) (m cap : Nat) (d : Nat → Nat) (hd : ∀ i, d i < 256) (hmc : m ≤ cap) (hcap : cap ≤ maxLen) (w : World) (hAb : ∀ a, A = some a → a.block < w.heap.size) (hB : Byt w A m d) (hT : TabW w) (hG : (bmG d m).2 = k) :
    Calls Tryd.prog 11 #[.slice A m cap] w fun e w' => e = .returned (.tuple #[.agg #[.int .i64 0, .int .i64 0, .slice none 0 0], .int .i64 (k : Nat)]) ∧ Below w.heap.size w w' := by
  refine (decode_b A m cap d hd hmc hcap w hAb hB hT).mono ?_
  rintro e w' ⟨hb, ⟨h0, _⟩ | ⟨_, rfl⟩⟩
  · omega
  · rw [hG]
    exact ⟨rfl, hb⟩
set_option maxRecDepth 100000 in
set_option maxHeartbeats 8000000 in
theorem told_walk18 (a b : Int) (A : Option Addr) (n cap : Nat) (c : Nat → Nat) (hc : ∀ i, c i < 65536) (t kd : Nat) (ht : t < 65536) (hkd : kd < 256) (ha : In64 a) (hb : In64 b) (hn : n ≤ cap) (hmax : cap ≤ maxLen) (w : World) (hP : Pix w A n c) (hT : TabW w) :
    Calls Tryd.prog 9 #[.agg #[.int .i64 a, .int .i64 b, .slice A n cap], .int .u16 t, .int .u8 kd] w fun e w' => e = .returned (.bool true) ∧ Below w.heap.size w w' := by
  have HB := Lib.hid ((Below.refl _ w).alloc (Nat.le_refl _) (.cells #[.int .i64 a, .int .i64 b, .slice A n cap] 26))
  have HX := Lib.hid (hp_new0 w (.cells #[.int .i64 a, .int .i64 b, .slice A n cap] 26))
  have HP := Lib.hid (hP.below HB.out)
  have HC := Lib.hid hc
  have HTW := Lib.hid hT
  clear hP hc hT
  go_enter Tryd.func9, Tryd.ntmps9
  go_wp2_with fail
  generalize w.alloc (.cells #[.int .i64 a, .int .i64 b, .slice A n cap] 26) = w1 at *
  refine (awake18 _ (HTW.out.below HB.out)).mono ?_
  rintro e w2 ⟨rfl, hB2⟩
  have HB2 := Lib.hid (HB.out.trans (hB2.mono HB.out.size))
  have HX2 := Lib.hid (hp_below HX.out hB2 (lt_heap HX.out))
  have HP2 := Lib.hid (HP.out.below hB2)
  clear hB2
  have k0 := hp_cell (j := 0) HX2.out rfl
  have k1 := hp_cell (j := 1) HX2.out rfl
  have k2 := hp_cell (j := 2) HX2.out rfl
  by_cases hbig : 3000 < n
  · have hbg : decide ((3000 : Int) < (n : Int)) = true := decide_eq_true (by omega)
    go_wp2_with fail
    go_ret
    exact ⟨rfl, HB2.out⟩
  have hbg : decide ((3000 : Int) < (n : Int)) = false := decide_eq_false (by omega)
  cases hf : fitsB a b n c 3 with
  | false =>
    have HFI := Lib.hid hf
    clear hf
    go_wp2_with fail
    refine (plain18_no a b A n cap c HC.out ha hb HFI.out hn hmax _ HP2.out).mono ?_
    rintro e w3 ⟨rfl, hB3⟩
    have HB3 := Lib.hid (HB2.out.trans (hB3.mono HB2.out.size))
    clear hB3 k0 k1 k2
    go_wp2_with fail
    go_ret
    exact ⟨rfl, HB3.out⟩
  | true =>
  have HFI := Lib.hid hf
  obtain ⟨W, H, N, rfl, rfl, hn4, hab, hW, hH, hN, hz0, h257⟩ := pic_nat hf
  subst hn4
  have hN1 : 1 ≤ N := by
    have : 1 * 1 ≤ W * H := Nat.mul_le_mul hW.1 hH.1
    omega
  have HAB := Lib.hid hab
  have HZ := Lib.hid hz0
  have hL4 : 4 * W * H = 4 * N := by rw [Nat.mul_assoc, hab]
  have HL4 := Lib.hid hL4
  have hAw2 : ∀ x, A = some x → x.block < w2.heap.size := fun x hx => by
    obtain ⟨bk, of, h1, h2, _⟩ := HP2.out (by omega)
    rw [h1] at hx
    cases hx
    exact h2
  have HY := Lib.hid (plain18_yes W H N A cap c HC.out hab hW hH hN hf hn hmax w2 HP2.out hAw2)
  clear hf h257 hz0 hab hL4 hAw2
  go_wp2_with fail
  refine HY.out.mono ?_
  rintro e w3 ⟨A3, cap3, rfl, hOw, hB3⟩
  have hPD := plD_of c W H hW.2 hH.2
  have hll := plL_len c W H
  rw [HL4.out] at hll
  have hlt := plL_lt HC.out W H
  obtain ⟨l, hle⟩ : ∃ l, l = plL c W H := ⟨_, rfl⟩
  rw [← hle] at hOw hPD hll hlt ⊢
  obtain ⟨L, hL⟩ : ∃ L, L = l.length := ⟨_, rfl⟩
  rw [← hL] at hOw hll ⊢
  obtain ⟨hBy, hn3, hc3, hA3⟩ := byt_own hOw hL.symm
  have HB3 := Lib.hid (HB2.out.trans (hB3.mono HB2.out.size))
  have HBY := Lib.hid hBy
  have HPD := Lib.hid hPD
  have HLT := Lib.hid hlt
  have HLE := Lib.hid hL
  have HA3 := Lib.hid hA3
  have HM3 := Lib.hid hc3
  have HCUT : Hid (∀ k, k < L → (bmG (gl l) k).2 = 2) := Lib.hid (fun k hk => told_cut (hPD.fine hW.2 hH.2) hW.1 hH.1 HZ.out k (by rw [HL4.out]; omega) (by omega))
  have HBAD : Hid (∀ k, (bmG (tB (gl l) k) L).2 = wantB k) := Lib.hid (fun k => told_bad hPD (gl_lt hlt) hW hH HZ.out L (by omega) (by omega) k)
  have hLb : 122 ≤ L ∧ L ≤ 262144 := by omega
  clear hll hOw hPD hlt hle hL hBy hA3 hB3 hc3 HY k0 k1 k2 HX HX2 HP HP2 HB HB2
  obtain ⟨k, hk⟩ : ∃ k, k = t % L := ⟨_, rfl⟩
  have hkl : k < L := by rw [hk]; exact Nat.mod_lt _ (by omega)
  have e1 : (t : Int) % (L : Int) = (k : Int) := by rw [hk]; simp
  have e2 : Int.tmod (t : Int) (L : Int) = (k : Int) := by rw [Int.tmod_eq_emod_of_nonneg (by omega), e1]
  have e3 : ((L : Int) == 0) = false := beq_eq_false_iff_ne.2 (by omega)
  have e4 : ¬L = 0 := by omega
  have rs := run_hi A3 L cap3 k (by omega)
  clear hk
  go_wp2_with fail
  refine (dec_err 2 (by omega) A3 k cap3 (gl l) (gl_lt HLT.out) (by omega) HM3.out w3 HA3.out (fun hn0 => by
    obtain ⟨bk, of, h1, h2, h3⟩ := HBY.out (by omega)
    exact ⟨bk, of, h1, h2, fun j hj => h3 j (by omega)⟩) (HTW.out.below HB3.out) (HCUT.out k hkl)).mono ?_
  rintro e w4 ⟨rfl, hB4⟩
  have hal : Below w4.heap.size w4 (w4.alloc (.cells #[.int .i64 0, .int .i64 0, .slice none 0 0] 26)) := (Below.refl _ w4).alloc (Nat.le_refl _) _
  have hb5 := hB4.trans (hal.mono hB4.size)
  have HB5 := Lib.hid (HB3.out.trans (hb5.mono HB3.out.size))
  have HBY5 := Lib.hid (HBY.out.below hb5)
  clear hB4 hal hb5 rs e1 e2 e3 HCUT
  go_upto_region 9 with fail
  generalize w4.alloc (.cells #[.int .i64 0, .int .i64 0, .slice none 0 0] 26) = w5 at *
  obtain ⟨g, cap8, w8, r8, o8, hg5, hgl, hB8⟩ := app_copy w5 A3 L cap3 l HLE.out.symm (by omega) (by omega) HBY5.out
  have HR8 := Lib.hid r8
  have HO8 := Lib.hid o8
  have HB8 := Lib.hid (HB5.out.trans (hB8.mono HB5.out.size))
  have hgw : w.heap.size ≤ g := Nat.le_trans HB5.out.size hg5
  have hfz := o8.frozenAt
  have hcl : ∀ j, j < 60 → w8.cell? ⟨g, j, none⟩ = some (.int .u8 ((gl l j : Nat) : Int)) := fun j hj => by
    rw [o8.cellAt j (by omega)]
    have hj2 : j < l.length := by rw [← HLE.out]; omega
    simp [cellsB, gl, hj2]
  have c10 := hcl 10 (by omega)
  have c14 := hcl 14 (by omega)
  have c18 := hcl 18 (by omega)
  have c19 := hcl 19 (by omega)
  have c26 := hcl 26 (by omega)
  have c28 := hcl 28 (by omega)
  have c54 := hcl 54 (by omega)
  have c58 := hcl 58 (by omega)
  clear r8 o8 hB8 hcl hg5 HB5 HBY5
  go_upto_region 10 with (at_builtin; ((with_reducible refine wpList_app (o := ⟨some 38, _, _, _, _, _⟩) ?_ (.tmp 36) (.tmp 37) 22 ?_ _ _ _ _ ?_ ?_ HR8.out ?_); rfl; rfl; rfl; rfl))
  obtain ⟨q, hq⟩ : ∃ q, q = kd % 7 := ⟨_, rfl⟩
  have f1 : (kd : Int) % 7 = (q : Int) := by omega
  have f2 : Int.tmod (kd : Int) 7 = (q : Int) := by rw [Int.tmod_eq_emod_of_nonneg (by omega), f1]
  have hq7 : q = 0 ∨ q = 1 ∨ q = 2 ∨ q = 3 ∨ q = 4 ∨ q = 5 ∨ q = 6 := by omega
  have hL60 : 60 < L := by omega
  clear hq
  rcases hq7 with rfl | rfl | rfl | rfl | rfl | rfl | rfl
  · have o9 := (HO8.out.stored 26 (.int .u8 ((2 : Nat) : Int))).1
    rw [← cellsB_set] at o9
    obtain ⟨hBy9, hn9, hc9, hA9⟩ := byt_own o9 (by simp only [List.length_set]; exact HLE.out.symm)
    have hG := HBAD.out 0
    rw [show tB (gl l) 0 = gl (l.set 26 2) by rw [gl_set (by rw [← HLE.out]; omega)]; rfl] at hG
    have hlt9 : ∀ x ∈ (l.set 26 2), x < 256 := fun x hx => by
      rcases List.mem_or_eq_of_mem_set hx with h | rfl
      · exact HLT.out x h
      · omega
    have HBL := Lib.hid (HB8.out.setCell (p := ⟨g, 26, none⟩) hgw (.int .u8 ((2 : Nat) : Int)))
    have HG := Lib.hid hG
    have HBY9 := Lib.hid hBy9
    have HLT9 := Lib.hid hlt9
    have HA9 := Lib.hid hA9
    have HC9 := Lib.hid hc9
    have HTW9 := Lib.hid (HTW.out.below HBL.out)
    clear o9 hG hBy9 hlt9 hA9 hc9
    go_wp2_with fail
    refine (dec_err 4 (by omega) _ L cap8 (gl (l.set 26 2)) (gl_lt HLT9.out) hn9 HC9.out _ HA9.out HBY9.out HTW9.out (HG.out.trans rfl)).mono ?_
    rintro e w10 ⟨rfl, hB10⟩
    have HF := Lib.hid ((HBL.out.trans (hB10.mono HBL.out.size)).alloc (Nat.le_trans HBL.out.size hB10.size) (.cells #[.int .i64 0, .int .i64 0, .slice none 0 0] 26))
    clear hB10
    go_wp2
    go_ret
    exact ⟨rfl, HF.out⟩
  · have o9 := (HO8.out.stored 28 (.int .u8 ((31 : Nat) : Int))).1
    rw [← cellsB_set] at o9
    obtain ⟨hBy9, hn9, hc9, hA9⟩ := byt_own o9 (by simp only [List.length_set]; exact HLE.out.symm)
    have hG := HBAD.out 1
    rw [show tB (gl l) 1 = gl (l.set 28 31) by rw [gl_set (by rw [← HLE.out]; omega)]; rfl] at hG
    have hlt9 : ∀ x ∈ (l.set 28 31), x < 256 := fun x hx => by
      rcases List.mem_or_eq_of_mem_set hx with h | rfl
      · exact HLT.out x h
      · omega
    have HBL := Lib.hid (HB8.out.setCell (p := ⟨g, 28, none⟩) hgw (.int .u8 ((31 : Nat) : Int)))
    have HG := Lib.hid hG
    have HBY9 := Lib.hid hBy9
    have HLT9 := Lib.hid hlt9
    have HA9 := Lib.hid hA9
    have HC9 := Lib.hid hc9
    have HTW9 := Lib.hid (HTW.out.below HBL.out)
    clear o9 hG hBy9 hlt9 hA9 hc9
    go_wp2_with fail
    refine (dec_err 4 (by omega) _ L cap8 (gl (l.set 28 31)) (gl_lt HLT9.out) hn9 HC9.out _ HA9.out HBY9.out HTW9.out (HG.out.trans rfl)).mono ?_
    rintro e w10 ⟨rfl, hB10⟩
    have HF := Lib.hid ((HBL.out.trans (hB10.mono HBL.out.size)).alloc (Nat.le_trans HBL.out.size hB10.size) (.cells #[.int .i64 0, .int .i64 0, .slice none 0 0] 26))
    clear hB10
    go_wp2
    go_ret
    exact ⟨rfl, HF.out⟩
  · have o9 := (HO8.out.stored 18 (.int .u8 ((1 : Nat) : Int))).1
    rw [← cellsB_set] at o9
    have o10 := (o9.stored 19 (.int .u8 ((1 : Nat) : Int))).1
    rw [← cellsB_set] at o10
    have c19b : (w8.setCell ⟨g, 18, none⟩ (.int .u8 ((1 : Nat) : Int))).cell? ⟨g, 19, none⟩ = some (.int .u8 ((gl l 19 : Nat) : Int)) := by
      have h := o9.cellAt 19 (by omega)
      rw [h]
      have hj2 : 19 < l.length := by rw [← HLE.out]; omega
      simp [cellsB, gl, hj2]
    have hfz2 := o9.frozenAt
    obtain ⟨hBy9, hn9, hc9, hA9⟩ := byt_own o10 (by simp only [List.length_set]; exact HLE.out.symm)
    have hG := HBAD.out 2
    rw [show tB (gl l) 2 = gl ((l.set 18 1).set 19 1) by rw [gl_set (by rw [List.length_set]; rw [← HLE.out]; omega), gl_set (by rw [← HLE.out]; omega)]; rfl] at hG
    have hlt9 : ∀ x ∈ ((l.set 18 1).set 19 1), x < 256 := fun x hx => by
      rcases List.mem_or_eq_of_mem_set hx with h | rfl
      · rcases List.mem_or_eq_of_mem_set h with h | rfl
        · exact HLT.out x h
        · omega
      · omega
    have HBL := Lib.hid ((HB8.out.setCell (p := ⟨g, 18, none⟩) hgw (.int .u8 ((1 : Nat) : Int))).setCell (p := ⟨g, 19, none⟩) hgw (.int .u8 ((1 : Nat) : Int)))
    have HG := Lib.hid hG
    have HBY9 := Lib.hid hBy9
    have HLT9 := Lib.hid hlt9
    have HA9 := Lib.hid hA9
    have HC9 := Lib.hid hc9
    have HTW9 := Lib.hid (HTW.out.below HBL.out)
    clear o9 o10 hG hBy9 hlt9 hA9 hc9
    go_wp2_with fail
    refine (dec_err 6 (by omega) _ L cap8 (gl ((l.set 18 1).set 19 1)) (gl_lt HLT9.out) hn9 HC9.out _ HA9.out HBY9.out HTW9.out (HG.out.trans rfl)).mono ?_
    rintro e w10 ⟨rfl, hB10⟩
    have HF := Lib.hid ((HBL.out.trans (hB10.mono HBL.out.size)).alloc (Nat.le_trans HBL.out.size hB10.size) (.cells #[.int .i64 0, .int .i64 0, .slice none 0 0] 26))
    clear hB10
    go_wp2
    go_ret
    exact ⟨rfl, HF.out⟩
  · have o9 := (HO8.out.stored 54 (.int .u8 ((0 : Nat) : Int))).1
    rw [← cellsB_set] at o9
    obtain ⟨hBy9, hn9, hc9, hA9⟩ := byt_own o9 (by simp only [List.length_set]; exact HLE.out.symm)
    have hG := HBAD.out 3
    rw [show tB (gl l) 3 = gl (l.set 54 0) by rw [gl_set (by rw [← HLE.out]; omega)]; rfl] at hG
    have hlt9 : ∀ x ∈ (l.set 54 0), x < 256 := fun x hx => by
      rcases List.mem_or_eq_of_mem_set hx with h | rfl
      · exact HLT.out x h
      · omega
    have HBL := Lib.hid (HB8.out.setCell (p := ⟨g, 54, none⟩) hgw (.int .u8 ((0 : Nat) : Int)))
    have HG := Lib.hid hG
    have HBY9 := Lib.hid hBy9
    have HLT9 := Lib.hid hlt9
    have HA9 := Lib.hid hA9
    have HC9 := Lib.hid hc9
    have HTW9 := Lib.hid (HTW.out.below HBL.out)
    clear o9 hG hBy9 hlt9 hA9 hc9
    go_wp2_with fail
    refine (dec_err 4 (by omega) _ L cap8 (gl (l.set 54 0)) (gl_lt HLT9.out) hn9 HC9.out _ HA9.out HBY9.out HTW9.out (HG.out.trans rfl)).mono ?_
    rintro e w10 ⟨rfl, hB10⟩
    have HF := Lib.hid ((HBL.out.trans (hB10.mono HBL.out.size)).alloc (Nat.le_trans HBL.out.size hB10.size) (.cells #[.int .i64 0, .int .i64 0, .slice none 0 0] 26))
    clear hB10
    go_wp2
    go_ret
    exact ⟨rfl, HF.out⟩
  · have o9 := (HO8.out.stored 58 (.int .u8 ((255 : Nat) : Int))).1
    rw [← cellsB_set] at o9
    obtain ⟨hBy9, hn9, hc9, hA9⟩ := byt_own o9 (by simp only [List.length_set]; exact HLE.out.symm)
    have hG := HBAD.out 4
    rw [show tB (gl l) 4 = gl (l.set 58 255) by rw [gl_set (by rw [← HLE.out]; omega)]; rfl] at hG
    have hlt9 : ∀ x ∈ (l.set 58 255), x < 256 := fun x hx => by
      rcases List.mem_or_eq_of_mem_set hx with h | rfl
      · exact HLT.out x h
      · omega
    have HBL := Lib.hid (HB8.out.setCell (p := ⟨g, 58, none⟩) hgw (.int .u8 ((255 : Nat) : Int)))
    have HG := Lib.hid hG
    have HBY9 := Lib.hid hBy9
    have HLT9 := Lib.hid hlt9
    have HA9 := Lib.hid hA9
    have HC9 := Lib.hid hc9
    have HTW9 := Lib.hid (HTW.out.below HBL.out)
    clear o9 hG hBy9 hlt9 hA9 hc9
    go_wp2_with fail
    refine (dec_err 4 (by omega) _ L cap8 (gl (l.set 58 255)) (gl_lt HLT9.out) hn9 HC9.out _ HA9.out HBY9.out HTW9.out (HG.out.trans rfl)).mono ?_
    rintro e w10 ⟨rfl, hB10⟩
    have HF := Lib.hid ((HBL.out.trans (hB10.mono HBL.out.size)).alloc (Nat.le_trans HBL.out.size hB10.size) (.cells #[.int .i64 0, .int .i64 0, .slice none 0 0] 26))
    clear hB10
    go_wp2
    go_ret
    exact ⟨rfl, HF.out⟩
  · have o9 := (HO8.out.stored 14 (.int .u8 ((41 : Nat) : Int))).1
    rw [← cellsB_set] at o9
    obtain ⟨hBy9, hn9, hc9, hA9⟩ := byt_own o9 (by simp only [List.length_set]; exact HLE.out.symm)
    have hG := HBAD.out 5
    rw [show tB (gl l) 5 = gl (l.set 14 41) by rw [gl_set (by rw [← HLE.out]; omega)]; rfl] at hG
    have hlt9 : ∀ x ∈ (l.set 14 41), x < 256 := fun x hx => by
      rcases List.mem_or_eq_of_mem_set hx with h | rfl
      · exact HLT.out x h
      · omega
    have HBL := Lib.hid (HB8.out.setCell (p := ⟨g, 14, none⟩) hgw (.int .u8 ((41 : Nat) : Int)))
    have HG := Lib.hid hG
    have HBY9 := Lib.hid hBy9
    have HLT9 := Lib.hid hlt9
    have HA9 := Lib.hid hA9
    have HC9 := Lib.hid hc9
    have HTW9 := Lib.hid (HTW.out.below HBL.out)
    clear o9 hG hBy9 hlt9 hA9 hc9
    go_wp2_with fail
    refine (dec_err 4 (by omega) _ L cap8 (gl (l.set 14 41)) (gl_lt HLT9.out) hn9 HC9.out _ HA9.out HBY9.out HTW9.out (HG.out.trans rfl)).mono ?_
    rintro e w10 ⟨rfl, hB10⟩
    have HF := Lib.hid ((HBL.out.trans (hB10.mono HBL.out.size)).alloc (Nat.le_trans HBL.out.size hB10.size) (.cells #[.int .i64 0, .int .i64 0, .slice none 0 0] 26))
    clear hB10
    go_wp2
    go_ret
    exact ⟨rfl, HF.out⟩
  · have o9 := (HO8.out.stored 10 (.int .u8 ((121 : Nat) : Int))).1
    rw [← cellsB_set] at o9
    obtain ⟨hBy9, hn9, hc9, hA9⟩ := byt_own o9 (by simp only [List.length_set]; exact HLE.out.symm)
    have hG := HBAD.out 6
    rw [show tB (gl l) 6 = gl (l.set 10 121) by rw [gl_set (by rw [← HLE.out]; omega)]; rfl] at hG
    have hlt9 : ∀ x ∈ (l.set 10 121), x < 256 := fun x hx => by
      rcases List.mem_or_eq_of_mem_set hx with h | rfl
      · exact HLT.out x h
      · omega
    have HBL := Lib.hid (HB8.out.setCell (p := ⟨g, 10, none⟩) hgw (.int .u8 ((121 : Nat) : Int)))
    have HG := Lib.hid hG
    have HBY9 := Lib.hid hBy9
    have HLT9 := Lib.hid hlt9
    have HA9 := Lib.hid hA9
    have HC9 := Lib.hid hc9
    have HTW9 := Lib.hid (HTW.out.below HBL.out)
    clear o9 hG hBy9 hlt9 hA9 hc9
    go_wp2_with fail
    refine (dec_err 4 (by omega) _ L cap8 (gl (l.set 10 121)) (gl_lt HLT9.out) hn9 HC9.out _ HA9.out HBY9.out HTW9.out (HG.out.trans rfl)).mono ?_
    rintro e w10 ⟨rfl, hB10⟩
    have HF := Lib.hid ((HBL.out.trans (hB10.mono HBL.out.size)).alloc (Nat.le_trans HBL.out.size hB10.size) (.cells #[.int .i64 0, .int .i64 0, .slice none 0 0] 26))
    clear hB10
    go_wp2
    go_ret
    exact ⟨rfl, HF.out⟩
end Go.Proofs.YtdooefnckdklmaaDoor
