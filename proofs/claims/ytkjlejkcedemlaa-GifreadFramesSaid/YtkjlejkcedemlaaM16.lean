/- gifread's frame. gifread's more: a block that is not the frame. -/
import Derived.Test.YtkjlejkcedemlaaM15

namespace Go.Proofs.Ytkjlejkcedemlaa
set_option maxRecDepth 100000
set_option linter.unusedVariables false
open Go.ChangeShapes Go.WideShapes Go.ChangeAt Go.RowKit

theorem tabC_at (b : Nat → Nat) (q N k : Nat) (hk : k < N) : (tabC b q N)[k]? = some (tabP b q k) := by
  unfold tabC tabP
  rw [List.getElem?_map, List.getElem?_range hk]
  rfl
theorem drewN_drewN (w : World) (a b : Nat) : (w.drewN a).drewN b = w.drewN (a + b) := by
  simp [World.drewN, Nat.add_assoc]
theorem num_w (w : World) (Z : Option Addr) (n cz : Nat) (c : Nat → Nat) (hc : ∀ i, c i < 256) (v : Nat) (hv : lowD c 0 2 = v) (hn : 2 ≤ n) (hnz : n ≤ cz) (hB : Byt w Z n c) :
    ∀ k, Calls Try.prog 36 #[.slice Z n cz] (w.drewN k) fun e w' => e = .returned (.int .i64 (v : Nat)) ∧ ∃ j, w' = w.drewN j := fun k => by
  have h := number_g Z n cz c hc hn hnz _ (hB.below (below_drewN (Below.refl _ _) k))
  rw [hv] at h
  exact h.mono fun _ _ h => ⟨h.1, h.2.elim fun j hj => ⟨k + j, by rw [hj, drewN_drewN]⟩⟩
theorem setPost.chg {B : Nat} {a b : Int} {ga n : Nat} {c : Nat → Nat} {x y : Int} {p : P4} {w w' : World} {e : Ending} (h : setPost B a b (some ⟨ga, 0, none⟩) n c x y p w e w') (hB : B ≤ w.heap.size) : Chg [ga] w w' := by
  obtain ⟨_, h1, h2, _⟩ := h
  have h1 := h1 hB
  refine ⟨h1.os, h1.tape, h1.output, h1.size, fun i hi hn => ?_⟩
  rw [h2 i _ (Array.getElem?_eq_getElem hi) (fun k _ hk => by cases hk; simp at hn; omega)]
  exact (Array.getElem?_eq_getElem hi).symm
theorem and64g (x : Nat) (hx : x < 256) : decide ((0 : Int) < bits .and .u8 (x : Int) 64) = decide (x / 64 % 2 = 1) := by
  have h := u8_and_nat x 64 hx (by omega)
  rw [show ((64 : Nat) : Int) = 64 from rfl] at h
  rw [h]
  have k : ∀ y : Fin 256, decide ((0 : Int) < ((y.val &&& 64 : Nat) : Int)) = decide (y.val / 64 % 2 = 1) := by decide
  exact k ⟨x, hx⟩
theorem Sl.chgG {w w' : World} {A : Option Addr} {n cap : Nat} {xs : List Value} {S : List Nat} (h : Sl w (.slice A n cap) 1 n xs) (hc : Chg S w w') (hf : ∀ a, A = some a → a.block ∉ S) : Sl w' (.slice A n cap) 1 n xs := by
  obtain ⟨hl, A', cap', he, h1, h2, h3⟩ := h
  cases he
  refine ⟨hl, A, cap, rfl, h1, h2, fun hn => ?_⟩
  obtain ⟨b, off, rfl, hlt, hcl⟩ := h3 hn
  refine ⟨b, off, rfl, Nat.lt_of_lt_of_le hlt hc.size, fun j hj => ?_⟩
  have hblk := hc.block b hlt (hf _ rfl)
  have := hcl j hj
  unfold World.cell? at this ⊢
  rw [hblk]
  exact this
theorem Byt.chgS {w w' : World} {A : Option Addr} {n : Nat} {c : Nat → Nat} {S : List Nat} (h : Byt w A n c) (hc : Chg S w w') (hf : ∀ a, A = some a → a.block ∉ S) : Byt w' A n c := fun hn => by
  obtain ⟨bk, off, rfl, hlt, hcl⟩ := h hn
  refine ⟨bk, off, rfl, Nat.lt_of_lt_of_le hlt hc.size, fun j hj => ?_⟩
  have hblk := hc.block bk hlt (hf _ rfl)
  have := hcl j hj
  unfold World.cell? at this ⊢
  rw [hblk]
  exact this
/-- Where a pixel is drawn: the picture is as it was, or has it. -/
structure PixS (w0 : World) (ga n4 : Nat) (ck cn : Nat → Nat) (w : World) : Prop where
  chg : Chg [ga] w0 w
  own : Own 0 w (some ⟨ga, 0, none⟩) n4 ck ∨ Own 0 w (some ⟨ga, 0, none⟩) n4 cn
theorem PixS.below {w0 : World} {ga n4 : Nat} {ck cn : Nat → Nat} {w w' : World} (h : PixS w0 ga n4 ck cn w) (hb : Below w.heap.size w w') : PixS w0 ga n4 ck cn w' :=
  ⟨h.1.trans (Chg.of_below hb), h.2.imp (fun h => h.below hb) (fun h => h.below hb)⟩
theorem cell_bel {w w' : World} {p : Addr} {v : Value} (hb : Below w.heap.size w w') (h : w.cell? p = some v) : w'.cell? p = some v := (hb.cell (lt_of_cell h)).trans h
theorem pixel_S (g q N k : Nat) (b : Nat → Nat) (hbt : ∀ i, b i < 256) (Z : Option Addr) (cz : Nat) (w0 : World) (h : SlG g q (3 * N) b Z cz w0) (hk : k < N) (hk2 : k < 256) (hN : N ≤ 256) (ga n4 : Nat) (hga : g < ga) (ck cn : Nat → Nat) (P : P4) (hP : P = tabP b q k) (w : World) (hS : PixS w0 ga n4 ck cn w) :
    Calls Try.prog 48 #[.slice Z (3 * N) cz, .int .u8 (k : Nat)] w fun e w' => e = .returned (.agg #[.int .u16 (P.1 : Nat), .int .u16 (P.2.1 : Nat), .int .u16 (P.2.2.1 : Nat), .int .u16 (P.2.2.2 : Nat)]) ∧ Below w.heap.size w w' := by
  subst hP
  refine pixel_yes g q N k b hbt Z cz w ⟨h.le, h.max, h.far, h.byt.chgS hS.chg (fun a ha => ?_)⟩ hk hk2 hN
  have := h.far a ha
  simp
  omega
theorem setC_idem (c : Nat → Nat) (k : Nat) (p : P4) : setC (setC c k p) k p = setC c k p := by
  funext j
  unfold setC
  (repeat' split) <;> rfl
theorem set_S (W H n4 cap' x y : Nat) (ga : Nat) (P : P4) (hn : n4 ≤ cap') (hc : cap' ≤ maxLen) (hW : W ≤ 256) (hH : H ≤ 256) (hin : inB (W : Nat) (H : Nat) n4 (x : Nat) (y : Nat) = true) (w0 : World) (ck : Nat → Nat) (xI yI : Int) (hx : xI = (x : Nat)) (hy : yI = (y : Nat)) (w : World) (hS : PixS w0 ga n4 ck (setC ck (y * W + x) P) w) :
    Calls Try.prog 47 #[.agg #[.int .i64 (W : Nat), .int .i64 (H : Nat), .slice (some ⟨ga, 0, none⟩) n4 cap'], .int .i64 xI, .int .i64 yI, .agg #[.int .u16 (P.1 : Nat), .int .u16 (P.2.1 : Nat), .int .u16 (P.2.2.1 : Nat), .int .u16 (P.2.2.2 : Nat)]] w fun e w' =>
      e = .returned (.bool true) ∧ PixS w0 ga n4 ck (setC ck (y * W + x) P) w' ∧ Own 0 w' (some ⟨ga, 0, none⟩) n4 (setC ck (y * W + x) P) ∧ Chg [ga] w w' := by
  subst hx hy
  have key : ∀ c, setC c (y * W + x) P = setC ck (y * W + x) P → Own 0 w (some ⟨ga, 0, none⟩) n4 c → Calls Try.prog 47 #[.agg #[.int .i64 (W : Nat), .int .i64 (H : Nat), .slice (some ⟨ga, 0, none⟩) n4 cap'], .int .i64 (x : Nat), .int .i64 (y : Nat), .agg #[.int .u16 (P.1 : Nat), .int .u16 (P.2.1 : Nat), .int .u16 (P.2.2.1 : Nat), .int .u16 (P.2.2.2 : Nat)]] w fun e w' =>
      e = .returned (.bool true) ∧ PixS w0 ga n4 ck (setC ck (y * W + x) P) w' ∧ Own 0 w' (some ⟨ga, 0, none⟩) n4 (setC ck (y * W + x) P) ∧ Chg [ga] w w' := fun c hcc hO => by
    refine (set_any (W : Nat) (H : Nat) _ n4 cap' c (x : Nat) (y : Nat) P (by unfold In64; omega) (by unfold In64; omega) hn hc w hO).mono ?_
    rintro e w' hp
    have hch := hp.chg (Nat.zero_le _)
    obtain ⟨rfl, _, _, h3⟩ := hp
    have e1 : setD (W : Nat) (H : Nat) n4 c (x : Nat) (y : Nat) P = setC ck (y * W + x) P := by
      unfold setD
      rw [if_pos hin, ← hcc]
      congr 1
    rw [e1] at h3
    exact ⟨by rw [hin], ⟨hS.chg.trans hch, .inr h3⟩, h3, hch⟩
  rcases hS.own with h | h
  · exact key ck rfl h
  · exact key _ (setC_idem _ _ _) h
theorem cell_chg {w w' : World} {S : List Nat} {p : Addr} {v : Value} (hc : Chg S w w') (hp : p.block ∉ S) (h : w.cell? p = some v) : w'.cell? p = some v := by
  have hl := lt_of_cell h
  have hblk := hc.block p.block hl hp
  unfold World.cell? at h ⊢
  rw [hblk]
  exact h
/-- A post whose say on a panic is given apart. -/
def PanQ (Q : Exit → Act → World → Prop) (R : List PanicEntry → World → Prop) : Exit → Act → World → Prop
  | .panic c, a, w => a.defers = [] ∧ R c w
  | e, a, w => Q e a w
theorem PanQ.pan {Q : Exit → Act → World → Prop} {R : List PanicEntry → World → Prop} {c : List PanicEntry} {a : Act} {w : World} (h : a.defers = []) (h2 : R c w) : PanQ Q R (.panic c) a w := ⟨h, h2⟩
theorem wp_panQ {P : Program} {id : Nat} {ops : Array Oper} {b : Bool} {Q : Exit → Act → World → Prop} {a : Act} {w : World} (R : List PanicEntry → World → Prop) (hR : ∀ c a w, a.defers = [] ∧ R c w → Q (.panic c) a w) (h : (Code.region id ops b).wp P (PanQ Q R) a w) : (Code.region id ops b).wp P Q a w :=
  Code.wp_mono (fun e a w h => by cases e <;> first | exact hR _ _ _ h | exact h) h
/-- What drawing a frame leaves. -/
def frPost (g ga m n4 : Nat) (A' : Option Addr) (r : (Nat → Nat) × Nat) (w : World) (e : Ending) (w' : World) : Prop :=
  Chg [g, ga] w w' ∧ ((r.2 = 0 ∧ e = .returned (.tuple #[]) ∧ Own 0 w' A' n4 r.1) ∨ (r.2 ≠ 0 ∧ PanE (r.2 : Nat) e))
set_option maxRecDepth 100000 in
set_option maxHeartbeats 4000000 in
theorem frame_prog (g m p : Nat) (b : Nat → Nat) (hbt : ∀ i, b i < 256) (hsm : m ≤ 262144) (W H : Nat) (hz : sizeE (W : Nat) (H : Nat) = 0) (ga n4 cap' q0 N0 : Nat) (hn4 : n4 = 4 * (W * H)) (hcap : n4 ≤ cap') (hmax : cap' ≤ maxLen) (ZT : Option Addr) (czT : Nat) (cl : Int) (hcl : -1 ≤ cl ∧ cl < 256) (hN0 : N0 ≤ 256) (w : World)
    (hG : GdS g m p b (.slice ZT (3 * N0) czT) cl w) (hT : SlG g q0 (3 * N0) b ZT czT w) (hga : g < ga) (hO : Own 0 w (some ⟨ga, 0, none⟩) n4 noP) :
    Calls Try.prog 40 #[.pointer (some ⟨g, 0, none⟩), .agg #[.int .i64 (W : Nat), .int .i64 (H : Nat), .slice (some ⟨ga, 0, none⟩) n4 cap']] w (frPost g ga m n4 (some ⟨ga, 0, none⟩) (frameG b m p W H (tabC b q0 N0) cl) w) := by
  obtain ⟨s1, s2, s3, s4, s5⟩ := size_ok hz
  obtain ⟨r, hr⟩ : ∃ r, r = frameG b m p W H (tabC b q0 N0) cl := ⟨_, rfl⟩
  rw [← hr]
  unfold frameG at hr
  have hX := hp_new0 w (.cells #[.int .i64 (W : Nat), .int .i64 (H : Nat), .slice (some ⟨ga, 0, none⟩) n4 cap'] 26)
  have hB1 : Below w.heap.size w (w.alloc (.cells #[.int .i64 (W : Nat), .int .i64 (H : Nat), .slice (some ⟨ga, 0, none⟩) n4 cap'] 26)) := (Below.refl _ w).alloc (Nat.le_refl _) _
  have HX := Lib.hid hX
  have HC1 : Hid (Chg [g, ga] w (w.alloc (.cells #[.int .i64 (W : Nat), .int .i64 (H : Nat), .slice (some ⟨ga, 0, none⟩) n4 cap'] 26))) := Lib.hid (Chg.of_below hB1)
  have HG1 := Lib.hid (hG.below hB1)
  have HT1 := Lib.hid (hT.below hB1)
  have HO1 := Lib.hid (hO.below hB1)
  have HZ := Lib.hid hz
  have HBT := Lib.hid hbt
  have HN4 := Lib.hid hn4
  have hglt := hG.lt
  have hpm := hG.pm
  have hw1 : w.heap.size < (w.alloc (.cells #[.int .i64 (W : Nat), .int .i64 (H : Nat), .slice (some ⟨ga, 0, none⟩) n4 cap'] 26)).heap.size := lt_heap hX
  have hgalt : ga < w.heap.size := by
    have h0 : 0 < n4 := by
      have : 1 * 1 ≤ W * H := Nat.mul_le_mul (by omega) (by omega)
      omega
    obtain ⟨k, cur, he, _, hg, _⟩ := hO h0
    cases he
    exact lt_heap hg
  have HR0 := Lib.hid hr
  clear hG hT hO hz hbt hX hB1 hn4 hr
  go_enter Try.func40, Try.ntmps40
  go_wp2_with fail
  generalize w.alloc (.cells #[.int .i64 (W : Nat), .int .i64 (H : Nat), .slice (some ⟨ga, 0, none⟩) n4 cap'] 26) = w1 at *
  by_cases e1 : m < p + 9
  · have hr := HR0.out
    rw [if_pos e1] at hr
    have HE := Lib.hid hr
    clear hr
    refine (take_no g m p 9 b _ cl w1 HG1.out (by omega) (by omega)).mono ?_
    rintro e w2 ⟨hp, rfl⟩
    obtain rfl := hp
    go_wp2_with fail
    exact ⟨rfl, by rw [HE.out]; exact ⟨HC1.out, .inr ⟨by decide, rfl⟩⟩⟩
  have hr := HR0.out
  rw [if_neg e1] at hr
  refine (take_yes g m p 9 b _ cl w1 HG1.out (by omega) (by omega)).mono ?_
  rintro e w2 ⟨Z, cz, rfl, hS2, hG2, hC2⟩
  have HS2 := Lib.hid hS2
  have HG2 := Lib.hid hG2
  have HCx := Lib.hid (hC2.mono (T := [g, ga]) (by simp))
  have HC2 := Lib.hid (HC1.out.trans HCx.out)
  have hX2 : w2.heap[w.heap.size]? = _ := hp_chg HX.out HCx.out (by simp; omega)
  have HX2 := Lib.hid hX2
  have HT2 := Lib.hid (HT1.out.chg hC2)
  have HO2 : Hid (Own 0 w2 (some ⟨ga, 0, none⟩) n4 noP) := Lib.hid (fun hn => by
    obtain ⟨k, cur, he, h0, hg, h1⟩ := HO1.out hn
    cases he
    exact ⟨ga, cur, rfl, h0, hp_chg hg hC2 (by simp; omega), h1⟩)
  have x0 := lowD_lt HBT.out p 2
  have x1 := lowD_lt HBT.out (p + 2) 2
  have x2 := lowD_lt HBT.out (p + 4) 2
  have x3 := lowD_lt HBT.out (p + 6) 2
  have hb8 := HBT.out (p + 8)
  rw [show (256 : Nat) ^ 2 = 65536 from rfl] at x0 x1 x2 x3
  obtain ⟨le, hle⟩ : ∃ q, q = lowD b p 2 := ⟨_, rfl⟩
  obtain ⟨tp, hto⟩ : ∃ q, q = lowD b (p + 2) 2 := ⟨_, rfl⟩
  obtain ⟨fw, hfw⟩ : ∃ q, q = lowD b (p + 4) 2 := ⟨_, rfl⟩
  obtain ⟨fh, hfh⟩ : ∃ q, q = lowD b (p + 6) 2 := ⟨_, rfl⟩
  obtain ⟨fl, hfl⟩ : ∃ q, q = b (p + 8) := ⟨_, rfl⟩
  rw [← hle] at hr x0
  rw [← hto] at hr x1
  rw [← hfw] at hr x2
  rw [← hfh] at hr x3
  rw [← hfl] at hr hb8
  have HR := Lib.hid hr
  have hlw : ∀ i, lowD (fun j => b (p + (i + j))) 0 2 = lowD b (p + i) 2 := fun i => by simp only [lowD, Nat.add_assoc, Nat.zero_add, Nat.add_zero, Nat.mul_zero]
  have hbz : ∀ i, i + 2 ≤ 9 → Byt w2 (if cz = i then Z else Z.map (·.add i)) (9 - i) (fun j => b (p + (i + j))) := fun i hi => HS2.out.byt.from HS2.out.le (by omega)
  have hz9 := HS2.out.le
  have R2 := run_lo Z 9 cz 2 (by omega)
  have R4 := run_lo Z 9 cz 4 (by omega)
  have R6 := run_lo Z 9 cz 6 (by omega)
  have b2 := hbz 2 (by omega)
  have b4 := hbz 4 (by omega)
  have b6 := hbz 6 (by omega)
  obtain ⟨Z2, hZ2⟩ : ∃ Z2, Z2 = (if cz = 2 then Z else Z.map (·.add 2)) := ⟨_, rfl⟩
  obtain ⟨Z4, hZ4⟩ : ∃ Z2, Z2 = (if cz = 4 then Z else Z.map (·.add 4)) := ⟨_, rfl⟩
  obtain ⟨Z6, hZ6⟩ : ∃ Z2, Z2 = (if cz = 6 then Z else Z.map (·.add 6)) := ⟨_, rfl⟩
  rw [← hZ2, show ((2 : Nat) : Int) = 2 from rfl] at R2
  rw [← hZ2] at b2
  rw [← hZ4, show ((4 : Nat) : Int) = 4 from rfl] at R4
  rw [← hZ4] at b4
  rw [← hZ6, show ((6 : Nat) : Int) = 6 from rfl] at R6
  rw [← hZ6] at b6
  have L0 := num_w w2 Z 9 cz (fun j => b (p + j)) (fun _ => HBT.out _) le (by rw [hle]; simp only [lowD, Nat.add_assoc, Nat.zero_add, Nat.add_zero, Nat.mul_zero]) (by omega) hz9 HS2.out.byt
  have L2 := num_w w2 Z2 7 (cz - 2) _ (fun _ => HBT.out _) tp (by rw [hlw, hto]) (by omega) (by omega) b2
  have L4 := num_w w2 Z4 5 (cz - 4) _ (fun _ => HBT.out _) fw (by rw [hlw, hfw]) (by omega) (by omega) b4
  have L6 := num_w w2 Z6 3 (cz - 6) _ (fun _ => HBT.out _) fh (by rw [hlw, hfh]) (by omega) (by omega) b6
  obtain ⟨bk, of, hZe, _, hcl9⟩ := HS2.out.byt (by omega)
  have c8 : w2.cell? ⟨bk, of + 8, none⟩ = some (.int .u8 (b (p + 8) : Nat)) := hcl9 8 (by omega)
  rw [← hfl] at c8
  subst hZe
  clear hlw hbz b2 b4 b6 hZ2 hZ4 hZ6 hcl9 hle hto hfw hfh hfl hr hS2 hG2 hC2 hX2 HG1 HT1 HO1
  go_upto_region 2 with fail
  go_quiet (first | (go_at_call 36; with_reducible exact L0 _) | (go_at_call 36; with_reducible exact L2 _) | (go_at_call 36; with_reducible exact L4 _) | (go_at_call 36; with_reducible exact L6 _))
  have hd3 : Below w2.heap.size w2 (w2.drewN nq) := below_drewN (Below.refl _ _) nq
  have HC3 := Lib.hid (HC2.out.trans (Chg.of_below hd3))
  have HG3 := Lib.hid (HG2.out.below hd3)
  have HT3 := Lib.hid (HT2.out.below hd3)
  have HO3 := Lib.hid (HO2.out.below hd3)
  have HX3 : Hid ((w2.drewN nq).heap[w.heap.size]? = some (.cells #[.int .i64 (W : Nat), .int .i64 (H : Nat), .slice (some ⟨ga, 0, none⟩) n4 cap'] 26 (0, 0))) := Lib.hid HX2.out
  clear L0 L2 L4 L6 R2 R4 R6 c8 hd3 HS2 HG2 HT2 HO2 HX2 HC2 HCx HC1 HX HR0
  generalize w2.drewN nq = w3 at *
  have k0 := hp_cell (j := 0) HX3.out rfl
  have k1 := hp_cell (j := 1) HX3.out rfl
  by_cases cx : fw = 0 ∨ fh = 0 ∨ W < le + fw ∨ H < tp + fh
  · have hr := HR.out
    rw [if_pos cx] at hr
    have HE := Lib.hid hr
    clear hr HR
    by_cases c1 : fw = 0
    · have t1 : decide (0 < fw) = false := by simp; omega
      go_wp2_with fail
      refine (gmust_no 4 _).mono ?_
      rintro e w4 ⟨hp, rfl⟩
      obtain rfl := hp
      go_wp2_with fail
      exact ⟨rfl, by rw [HE.out]; exact ⟨HC3.out, .inr ⟨by decide, rfl⟩⟩⟩
    have t1 : decide (0 < fw) = true := by simp; omega
    by_cases c2 : fh = 0
    · have t2 : decide (0 < fh) = false := by simp; omega
      go_wp2_with fail
      refine (gmust_no 4 _).mono ?_
      rintro e w4 ⟨hp, rfl⟩
      obtain rfl := hp
      go_wp2_with fail
      exact ⟨rfl, by rw [HE.out]; exact ⟨HC3.out, .inr ⟨by decide, rfl⟩⟩⟩
    have t2 : decide (0 < fh) = true := by simp; omega
    by_cases c3 : W < le + fw
    · have t3 : decide ((le : Int) + (fw : Int) ≤ (W : Int)) = false := by simp; omega
      go_wp2_with fail
      refine (gmust_no 4 _).mono ?_
      rintro e w4 ⟨hp, rfl⟩
      obtain rfl := hp
      go_wp2_with fail
      exact ⟨rfl, by rw [HE.out]; exact ⟨HC3.out, .inr ⟨by decide, rfl⟩⟩⟩
    have t3 : decide ((le : Int) + (fw : Int) ≤ (W : Int)) = true := by simp; omega
    have t4 : decide ((tp : Int) + (fh : Int) ≤ (H : Int)) = false := by simp; omega
    go_wp2_with fail
    refine (gmust_no 4 _).mono ?_
    rintro e w4 ⟨hp, rfl⟩
    obtain rfl := hp
    go_wp2_with fail
    exact ⟨rfl, by rw [HE.out]; exact ⟨HC3.out, .inr ⟨by decide, rfl⟩⟩⟩
  have hr := HR.out
  rw [if_neg cx] at hr
  have HE := Lib.hid hr
  clear hr HR
  have t1 : decide (0 < fw) = true := by simp; omega
  have t2 : decide (0 < fh) = true := by simp; omega
  have t3 : decide ((le : Int) + (fw : Int) ≤ (W : Int)) = true := by simp; omega
  have t4 : decide ((tp : Int) + (fh : Int) ≤ (H : Int)) = true := by simp; omega
  go_wp2_with fail
  refine (gmust_yes 4 _).mono ?_
  rintro e w4 ⟨rfl, rfl⟩
  clear t1 t2 t3 t4 k0 k1
  go_upto_region 4 with fail
  go_cut [10] (fun s10 wx => ∃ p1 q1 N1 Z1 cz1, s10 = .slice Z1 (3 * N1) cz1 ∧ N1 ≤ 256 ∧ SlG g q1 (3 * N1) b Z1 cz1 wx ∧ GdS g m p1 b (.slice ZT (3 * N0) czT) cl wx ∧ Chg [g] w3 wx ∧ Hid (r = pixG b m p1 W H le tp fw fh (decide (fl / 64 % 2 = 1)) (tabC b q1 N1) cl))
  case first =>
    obtain ⟨_, _, Z9, cz9, h9, _⟩ := HG3.out
    have g1 := hp_cell (j := 1) h9 rfl
    by_cases cf : fl / 128 = 1
    · have hr := HE.out
      rw [if_pos cf] at hr
      have HE1 := Lib.hid hr
      clear hr h9
      go_wp2_with fail
      refine (colours_yes g m (p + 9) fl _ rfl b _ (.slice ZT (3 * N0) czT) cl hb8 cf w3 HG3.out (by omega)).mono ?_
      obtain ⟨N, hN⟩ : ∃ N, N = 2 ^ (fl % 8 + 1) := ⟨_, rfl⟩
      have hN1 : N ≤ 256 := by
        rw [hN]
        exact Nat.le_trans (Nat.pow_le_pow_right (by omega) (show fl % 8 + 1 ≤ 8 by omega)) (by decide)
      rw [← hN]
      have hr := HE1.out
      rw [← hN] at hr
      have HE2 := Lib.hid hr
      clear hr hN HE1
      rintro e w5 (⟨hp5, Z5, cz5, rfl, hS5, hG5, hC5⟩ | ⟨hp5, hpe, rfl⟩)
      · have hr := HE2.out
        rw [if_neg (by omega)] at hr
        have HE3 := Lib.hid hr
        have HS5 := Lib.hid hS5
        have HG5 := Lib.hid hG5
        have HC5 := Lib.hid hC5
        clear hr hS5 hG5 hC5
        go_wp2_with fail
        go_meet
        exact ⟨p + 9 + 3 * N, p + 9, N, Z5, cz5, rfl, hN1, HS5.out, HG5.out, HC5.out, HE3⟩
      · have hr := HE2.out
        rw [if_pos hp5] at hr
        have HE3 := Lib.hid hr
        clear hr
        obtain rfl := hpe
        go_wp2_with fail
        exact ⟨rfl, by rw [HE3.out]; exact ⟨HC3.out, .inr ⟨by decide, rfl⟩⟩⟩
    · have hr := HE.out
      rw [if_neg cf] at hr
      have HE1 := Lib.hid hr
      clear hr h9
      go_wp2_with fail
      refine (colours_no g fl hb8 cf (.slice ZT (3 * N0) czT) w3).mono ?_
      rintro e w5 ⟨rfl, rfl⟩
      go_wp2_with fail
      go_meet
      exact ⟨p + 9, q0, N0, ZT, czT, rfl, hN0, HT3.out, HG3.out, Chg.refl _ _, HE1⟩
  case rest =>
  obtain ⟨p1, q1, N1, Z1, cz1, rfl, hN1, hS, hG, hC, hrr⟩ := hcut
  have HS4 := Lib.hid hS
  have HG4 := Lib.hid hG
  have HC4 := Lib.hid (HC3.out.trans (hC.mono (T := [g, ga]) (by simp)))
  have HX4 := Lib.hid (hp_chg HX3.out hC (by simp; omega))
  have HO4 : Hid (Own 0 wc (some ⟨ga, 0, none⟩) n4 noP) := Lib.hid (fun hn => by
    obtain ⟨k, cur, he, h0, hg, h1⟩ := HO3.out hn
    cases he
    exact ⟨ga, cur, rfl, h0, hp_chg hg hC (by simp; omega), h1⟩)
  have hp1 := hG.pm
  have hsz4 := hC.size
  have hg4 := hG.lt
  clear hS hG hC HG3 HT3 HO3 HX3 HC3 HE
  have hr := hrr.out
  unfold pixG at hr
  by_cases d1 : N1 = 0
  · subst d1
    rw [if_pos (by rfl)] at hr
    have HE := Lib.hid hr
    clear hr hrr
    go_wp2_with fail
    refine (gmust_no 4 _).mono ?_
    rintro e w5 ⟨hp, rfl⟩
    obtain rfl := hp
    go_wp2_with fail
    exact ⟨rfl, by rw [HE.out]; exact ⟨HC4.out, .inr ⟨by decide, rfl⟩⟩⟩
  rw [if_neg (by intro h; have := congrArg List.length h; rw [tabC_len] at this; simp at this; omega)] at hr
  have HE := Lib.hid hr
  have t1 : decide (0 < 3 * N1) = true := by simp; omega
  have t1' : decide ((0 : Int) < 3 * (N1 : Int)) = true := by simp; omega
  have t1'' : decide (0 < N1) = true := by simp; omega
  clear hr hrr
  go_wp2_with fail
  refine (gmust_yes 4 _).mono ?_
  rintro e w5 ⟨rfl, rfl⟩
  clear t1 t1' t1''
  go_wp2_with fail
  by_cases d2 : m ≤ p1
  · have hr := HE.out
    rw [if_pos d2] at hr
    have HE2 := Lib.hid hr
    clear hr HE
    refine (take_no g m p1 1 b _ cl wc HG4.out (by omega) (by omega)).mono ?_
    rintro e w5 ⟨hp, rfl⟩
    obtain rfl := hp
    go_wp2_with fail
    exact ⟨rfl, by rw [HE2.out]; exact ⟨HC4.out, .inr ⟨by decide, rfl⟩⟩⟩
  have hr := HE.out
  rw [if_neg d2] at hr
  have HE2 := Lib.hid hr
  clear hr HE
  refine (take_yes g m p1 1 b _ cl wc HG4.out (by omega) (by omega)).mono ?_
  rintro e w5 ⟨Z5, cz5, rfl, hS5, hG5, hC5⟩
  obtain ⟨b5, o5, hZ5, _, hcl5⟩ := hS5.byt (by omega)
  have c0 : w5.cell? ⟨b5, o5, none⟩ = some (.int .u8 (b p1 : Nat)) := hcl5 0 (by omega)
  have hb0 := HBT.out p1
  obtain ⟨sz, hsz⟩ : ∃ x, x = b p1 := ⟨_, rfl⟩
  have hr := HE2.out
  rw [← hsz] at c0 hb0 hr
  have HE3 := Lib.hid hr
  have HG5 := Lib.hid hG5
  have HS5 := Lib.hid (HS4.out.chg hC5)
  have HC5 := Lib.hid (HC4.out.trans (hC5.mono (T := [g, ga]) (by simp)))
  have HX5 := Lib.hid (hp_chg HX4.out hC5 (by simp; omega))
  have HO5 : Hid (Own 0 w5 (some ⟨ga, 0, none⟩) n4 noP) := Lib.hid (fun hn => by
    obtain ⟨k, cur, he, h0, hg, h1⟩ := HO4.out hn
    cases he
    exact ⟨ga, cur, rfl, h0, hp_chg hg hC5 (by simp; omega), h1⟩)
  have HSZ := Lib.hid hsz
  subst hZ5
  clear hr HE2 hsz hcl5 hS5 hG5 hC5 HG4 HS4 HC4 HX4 HO4
  by_cases d3 : sz < 2 ∨ 8 < sz
  · have hr := HE3.out
    rw [if_pos d3] at hr
    have HE := Lib.hid hr
    clear hr HE3
    by_cases d4 : sz < 2
    · have t3 : decide (2 ≤ sz) = false := by simp; omega
      have t3' : decide ((2 : Int) ≤ (sz : Int)) = false := by simp; omega
      go_wp2_with fail
      refine (gmust_no 4 _).mono ?_
      rintro e w6 ⟨hp, rfl⟩
      obtain rfl := hp
      go_wp2_with fail
      exact ⟨rfl, by rw [HE.out]; exact ⟨HC5.out, .inr ⟨by decide, rfl⟩⟩⟩
    · have t3 : decide (2 ≤ sz) = true := by simp; omega
      have t3' : decide ((2 : Int) ≤ (sz : Int)) = true := by simp; omega
      have t4 : decide ((sz : Int) ≤ 8) = false := by simp; omega
      go_wp2_with fail
      refine (gmust_no 4 _).mono ?_
      rintro e w6 ⟨hp, rfl⟩
      obtain rfl := hp
      go_wp2_with fail
      exact ⟨rfl, by rw [HE.out]; exact ⟨HC5.out, .inr ⟨by decide, rfl⟩⟩⟩
  have hr := HE3.out
  rw [if_neg d3] at hr
  have t3 : decide (2 ≤ sz) = true := by simp; omega
  have t3' : decide ((2 : Int) ≤ (sz : Int)) = true := by simp; omega
  have t4 : decide ((sz : Int) ≤ 8) = true := by simp; omega
  obtain ⟨U, hU⟩ : ∃ U, U = unV (fun i => b (p1 + 1 + i)) (m - (p1 + 1)) := ⟨_, rfl⟩
  rw [← hU] at hr
  have hu1 := un_lt (b := fun i => b (p1 + 1 + i)) (fun i => HBT.out _) (m - (p1 + 1))
  have hu2 := un_len (fun i => b (p1 + 1 + i)) (m - (p1 + 1))
  rw [← hU] at hu1 hu2
  have HU1 := Lib.hid hu1
  have HU := Lib.hid hU
  have HE := Lib.hid hr
  clear hr HE3 hU hu1
  go_wp2_with fail
  refine (gmust_yes 4 _).mono ?_
  rintro e w6 ⟨rfl, rfl⟩
  clear t3 t3' t4 c0
  go_wp2_with fail
  refine (pieces_g g m (p1 + 1) b HBT.out _ cl w5 HG5.out (by omega) U HU.out).mono ?_
  obtain ⟨U1, U2, U3⟩ := U
  dsimp only at hu2 ⊢
  have hr := HE.out
  dsimp only at hr
  have HE2 := Lib.hid hr
  have HU1' : Hid (∀ v ∈ U1, v < 256) := Lib.hid HU1.out
  clear hr HE HU HU1
  rintro e w6 (⟨rfl, A6, cap6, rfl, hN6, hG6, hC6⟩ | ⟨hu3, hpe, hB6⟩)
  case inr =>
    have hr := HE2.out
    rw [if_pos hu3] at hr
    have HE := Lib.hid hr
    have HC6 := Lib.hid (HC5.out.trans (Chg.of_below hB6))
    have HU3 := Lib.hid hu3
    clear hr hu3 hB6
    obtain rfl := hpe
    go_wp2_with fail
    exact ⟨rfl, by rw [HE.out]; exact ⟨HC6.out, .inr ⟨HU3.out, rfl⟩⟩⟩
  have hr := HE2.out
  rw [if_neg (by omega)] at hr
  have hfh : fw * fh ≤ 16384 := by
    have h1 : fw * fh ≤ W * H := Nat.mul_le_mul (by omega) (by omega)
    have h2 : ((W * H : Nat) : Int) ≤ 16384 := by rw [Int.natCast_mul]; exact s5
    exact Nat.le_trans h1 (by exact_mod_cast h2)
  obtain ⟨F, hF⟩ : ∃ F, F = fw * fh := ⟨_, rfl⟩
  have hFI : (fw : Int) * (fh : Int) = (F : Int) := by rw [hF, Int.natCast_mul]
  rw [← hF] at hfh hr
  have HF0 := Lib.hid hF
  have HN6 := Lib.hid hN6
  have HG6 := Lib.hid hG6
  have hw56 := hC6.size
  have HS6 := Lib.hid (HS5.out.chg hC6)
  have HC6 := Lib.hid (HC5.out.trans (hC6.mono (T := [g, ga]) (by simp)))
  have HX6 := Lib.hid (hp_chg HX5.out hC6 (by simp; omega))
  have HO6 : Hid (Own 0 w6 (some ⟨ga, 0, none⟩) n4 noP) := Lib.hid (fun hn => by
    obtain ⟨k, cur, he, h0, hg, h1⟩ := HO5.out hn
    cases he
    exact ⟨ga, cur, rfl, h0, hp_chg hg hC6 (by simp; omega), h1⟩)
  have hRL := (read_lzw A6 U1.length cap6 (gz U1) (gz_lt8 HU1'.out) HN6.out.le HN6.out.max HN6.out.nil (Nat.le_trans hu2 (by omega)) (sz : Nat) (F : Nat) (by omega) w6 HN6.out.byt)
  have HE := Lib.hid hr
  clear hr HE2 hF hN6 hG6 hC6 HS5 HC5 HX5 HO5 HG5
  go_wp2_with fail
  try rw [hFI]
  try rw [IntWalk.wrap64_in (F : Int) (by omega)]
  with_reducible refine hRL.mono ?_
  obtain ⟨V, hV⟩ : ∃ V, V = lzwV (gz U1) U1.length (sz : Nat) (F : Nat) := ⟨_, rfl⟩
  have hv1 := lzwV_len (gz U1) U1.length (sz : Nat) (F : Nat)
  have hv2 := lzwV_lt (gz U1) U1.length (sz : Nat) (F : Nat)
  have hr := HE.out
  rw [← hV] at hr hv1 hv2 ⊢
  rw [Int.toNat_natCast] at hv1
  clear hV HE HU1' hRL
  obtain ⟨V1, V2⟩ := V
  dsimp only at hr hv1 hv2 ⊢
  have HV2 := Lib.hid hv2
  have HE := Lib.hid hr
  clear hv2 hr
  rintro e w7 ⟨A7, cap7, rfl, hN7, hB7⟩
  have HN7 := Lib.hid hN7
  have hw67 := hB7.size
  have HG7 := Lib.hid (HG6.out.below hB7)
  have HS7 := Lib.hid (HS6.out.below hB7)
  have HC7 := Lib.hid (HC6.out.trans (Chg.of_below hB7))
  have HX7 := Lib.hid (hp_below HX6.out hB7 (lt_heap HX6.out))
  have HO7 := Lib.hid (HO6.out.below hB7)
  have hw6 := lt_heap HX6.out
  clear hN7 hB7 HG6 HS6 HC6 HX6 HO6 HN6
  by_cases d6 : V2 = 0
  case neg =>
    have hr := HE.out
    rw [if_pos d6] at hr
    have HE2 := Lib.hid hr
    have HD := Lib.hid d6
    have t5 : ((V2 : Int) == 0) = false := by simp; omega
    clear hr HE d6
    go_wp2_with fail
    refine (gmust_no (V2 : Nat) _).mono ?_
    rintro e w8 ⟨hp, rfl⟩
    obtain rfl := hp
    go_wp2_with fail
    exact ⟨rfl, by rw [HE2.out]; exact ⟨HC7.out, .inr ⟨HD.out, rfl⟩⟩⟩
  subst d6
  have hr := HE.out
  rw [if_neg (by omega)] at hr
  have HE2 := Lib.hid hr
  clear hr HE
  go_wp2_with fail
  refine (gmust_yes 0 _).mono ?_
  rintro e w8 ⟨rfl, rfl⟩
  by_cases d7 : V1.length < F
  · have hr := HE2.out
    rw [if_pos d7] at hr
    have HE := Lib.hid hr
    have t6 : ((V1.length : Int) == (F : Int)) = false := by simp; omega
    have hFW : wrap64 ((fw : Int) * (fh : Int)) = (F : Int) := by rw [hFI]; exact IntWalk.wrap64_in _ (by omega)
    clear hr HE2 hFI
    go_wp2_with fail
    refine (gmust_no 2 _).mono ?_
    rintro e w8 ⟨hp, rfl⟩
    obtain rfl := hp
    go_wp2_with fail
    exact ⟨rfl, by rw [HE.out]; exact ⟨HC7.out, .inr ⟨by decide, rfl⟩⟩⟩
  have hr := HE2.out
  rw [if_neg d7] at hr
  have HE := Lib.hid hr
  have HVF := Lib.hid (show V1.length = F by omega)
  have t6 : ((V1.length : Int) == (F : Int)) = true := by simp; omega
  have hFW : wrap64 ((fw : Int) * (fh : Int)) = (F : Int) := by rw [hFI]; exact IntWalk.wrap64_in _ (by omega)
  clear hr HE2 hFI
  go_wp2_with fail
  refine (gmust_yes 2 _).mono ?_
  rintro e w8 ⟨rfl, rfl⟩
  clear t6 hFW
  have h1fh : 1 ≤ fh ∧ fh ≤ 256 := by omega
  have h1fw : 1 ≤ fw ∧ fw ≤ 256 := by omega
  go_wp2_with fail
  refine (rows_prog fh h1fh.1 h1fh.2 w7).mono ?_
  rintro e w9 ⟨vR, rfl, hoR, hBR⟩
  have hRfar : ∀ r, vR.ownBlock = some r → w7.heap.size ≤ r := fun r hr => (hoR.lt r hr).1
  obtain ⟨hRl, AR, cR, rfl, hR1, hR2, hR3⟩ := Sl.of_own hoR
  rw [rowsG_len fh h1fh.1] at hR1 hR3 hRl
  have HSR : Hid (Sl w9 (.slice AR fh cR) 1 fh (cellsI (rowsG fh))) := Lib.hid ⟨hRl, AR, cR, rfl, hR1, hR2, hR3⟩
  have hgw7 : ga < w7.heap.size := by omega
  have HRF : Hid (∀ a, AR = some a → a.block ∉ [ga]) := Lib.hid (fun a ha => by
    have h9 := hRfar a.block (by rw [ha]; rfl)
    simp
    omega)
  have HG9 := Lib.hid (HG7.out.below hBR)
  have HS9 := Lib.hid (HS7.out.below hBR)
  have HC9 := Lib.hid (HC7.out.trans (Chg.of_below hBR))
  have HX9 := Lib.hid (hp_below HX7.out hBR (lt_heap HX7.out))
  have HO9 := Lib.hid (HO7.out.below hBR)
  have HP9 := Lib.hid (HN7.out.byt.below hBR)
  have HPF : Hid (∀ a, A7 = some a → a.block ∉ [ga]) := Lib.hid (fun a ha => by
    have h9 := HN7.out.far a ha
    simp
    omega)
  have hsz9 := hBR.size
  rw [rowsG_len fh h1fh.1]
  clear hoR hBR hR1 hR2 hR3 hRl hRfar HG7 HS7 HC7 HX7 HO7 HN7
  obtain ⟨lac, hlac⟩ : ∃ lac, lac = decide (fl / 64 % 2 = 1) := ⟨_, rfl⟩
  have f64 := and64g fl hb8
  have hr := HE.out
  rw [← hlac] at hr f64
  have HE4 := Lib.hid (show r = (match drawG W fw le tp lac (rowsG fh) (tabC b q1 N1) cl (V1.drop 0) 0 noP with | none => (noP, 4) | some c => (c, 0)) from hr)
  clear hr HE hlac
  go_wp2_with fail
  rw [HVF.out]
  go_loopw [105] (fun x wr => ∃ (k : Nat) (ck : Nat → Nat), k ≤ F ∧ x = .int .i64 (k : Nat) ∧ Chg [ga] w9 wr ∧ Own 0 wr (some ⟨ga, 0, none⟩) n4 ck ∧ Hid (r = (match drawG W fw le tp lac (rowsG fh) (tabC b q1 N1) cl (V1.drop k) k ck with | none => (noP, 4) | some c => (c, 0)))) (fun x _ => F - (intOf x).toNat)
  case atStart => exact ⟨0, noP, by omega, rfl, Chg.refl _ _, HO9.out, HE4⟩
  case round =>
    clear HE4 HO9
    obtain ⟨k, ck, hkF, rfl, hC, hO, hrr⟩ := hrel
    have HC := Lib.hid hC
    have HO := Lib.hid hO
    have HCw := Lib.hid (HC9.out.trans (hC.mono (T := [g, ga]) (by simp)))
    clear hC hO
    by_cases hlt : k < F
    · have hXr := hp_chg HX9.out HC.out (by simp; omega)
      have k0 := hp_cell (j := 0) hXr rfl
      have k1 := hp_cell (j := 1) hXr rfl
      have k2 := hp_cell (j := 2) hXr rfl
      obtain ⟨_, _, Z9, cz9, h9, _⟩ := HG9.out
      have g2 := hp_cell (j := 2) (hp_chg h9 HC.out (by simp; omega)) rfl
      obtain ⟨b7, o7, rfl, hb7, hc7⟩ := HP9.out.chgS HC.out HPF.out (by rw [HVF.out]; omega)
      have c0 := hc7 k (by rw [HVF.out]; exact hlt)
      have hx8 := gz_lt8 HV2.out k
      have hdrop := drop_gz V1 k (by rw [HVF.out]; exact hlt)
      obtain ⟨x, hx⟩ : ∃ x, x = gz V1 k := ⟨_, rfl⟩
      rw [← hx] at c0 hx8 hdrop
      have hrr2 := hrr.out
      rw [hdrop, drawG] at hrr2
      have HRR := Lib.hid hrr2
      clear hrr hrr2 hdrop hx hc7 h9 hXr
      by_cases hk : (x : Int) = cl
      · have t5 : ((x : Int) == cl) = true := by rw [beq_iff_eq]; exact hk
        have hE5 := HRR.out
        rw [if_pos hk] at hE5
        have HE5 := Lib.hid hE5
        clear hE5 hk
        go_wp2_with fail
        go_roundw
        case rel => exact ⟨k + 1, ck, hlt, by go_num, HC.out, HO.out, HE5⟩
        case measure => simp [intOf]; omega
      have t5 : ((x : Int) == cl) = false := beq_eq_false_iff_ne.2 hk
      have hE5 := HRR.out
      rw [if_neg hk, tabC_len] at hE5
      have HE5 := Lib.hid hE5
      clear hE5 hk HRR
      obtain ⟨Y, hY⟩ : ∃ Y, Y = k / fw := ⟨_, rfl⟩
      obtain ⟨M, hM⟩ : ∃ M, M = k % fw := ⟨_, rfl⟩
      have hYh : Y < fh := by
        rw [hY]
        refine Nat.div_lt_of_lt_mul ?_
        rw [← HF0.out]
        exact hlt
      have hMw : M < fw := by rw [hM]; exact Nat.mod_lt _ (by omega)
      have q1' : (k : Int) / (fw : Int) = (Y : Int) := by rw [hY]; simp
      have q2 : Int.tdiv (k : Int) (fw : Int) = (Y : Int) := by rw [Int.tdiv_eq_ediv_of_nonneg (by omega), q1']
      have q3 : (k : Int) % (fw : Int) = (M : Int) := by rw [hM]; simp
      have q4 : Int.tmod (k : Int) (fw : Int) = (M : Int) := by rw [Int.tmod_eq_emod_of_nonneg (by omega), q3]
      have q5 : ((fw : Int) == 0) = false := beq_eq_false_iff_ne.2 (by omega)
      have q7 : ¬ fw = 0 := by omega
      have HY := Lib.hid hY
      have HM := Lib.hid hM
      clear hY hM
      go_upto_if 122 with fail
      go_cut [17] (fun s17 wx => ∃ Z : Nat, s17 = .int .i64 (Z : Nat) ∧ Z = (if lac = true then gz (rowsG fh) Y else Y) ∧ wx = wr)
      case first =>
        cases hl : lac with
        | true =>
          rw [hl] at f64
          have HL := Lib.hid hl
          clear hl
          obtain ⟨bR, oR, hRe, hbR, hcR⟩ := (HSR.out.chgG HC.out HRF.out).cell (by omega)
          have hcy := hcR Y (by omega)
          rw [cellsI_get _ _ (by rw [rowsG_len fh h1fh.1]; exact hYh)] at hcy
          subst hRe
          clear hcR
          go_wp2_with fail
          go_meet
          exact ⟨_, rfl, by rw [HL.out]; simp, rfl⟩
        | false =>
          rw [hl] at f64
          have HL := Lib.hid hl
          clear hl
          go_wp2_with fail
          go_meet
          exact ⟨_, rfl, by rw [HL.out]; simp, rfl⟩
      case rest =>
      obtain ⟨Z, rfl, hZ, rfl⟩ := hcut
      have HZZ := Lib.hid hZ
      have hZb : Z < fh := by
        rw [HZZ.out]
        split
        · exact rowsG_lt fh _ (gz_mem (by rw [rowsG_len fh h1fh.1]; exact hYh))
        · exact hYh
      clear hZ f64 q1' q2 c0
      have z1 : IntKind.i64.wrap ((le : Int) + (M : Int)) = (le : Int) + (M : Int) := IntWalk.i64_in _ (by omega)
      have z2 : IntKind.i64.wrap ((tp : Int) + (Z : Int)) = (tp : Int) + (Z : Int) := IntWalk.i64_in _ (by omega)
      go_upto_region 19 with fail
      have HPX : Hid (PixS wc ga n4 ck (setC ck ((tp + Z) * W + (le + M)) (tabP b q1 x)) wc) := Lib.hid ⟨Chg.refl _ _, .inl HO.out⟩
      have HSw := Lib.hid (show SlG g q1 (3 * N1) b Z1 cz1 wc from ⟨HS9.out.le, HS9.out.max, HS9.out.far, HS9.out.byt.chgS HC.out (fun a ha => by have := HS9.out.far a ha; simp; omega)⟩)
      by_cases hx2 : N1 ≤ x
      · have hE5 := HE5.out
        rw [if_pos hx2] at hE5
        have HE6 := Lib.hid hE5
        have hPX := (show PixS wc ga n4 ck ck wc from ⟨Chg.refl _ _, .inl HO.out⟩)
        have hPXd := hPX.below ((Below.refl _ wc).drew)
        clear hE5 HE5 HPX
        refine wp_region_held_drew (S := fun w' => w'.cell? ⟨w.heap.size, 0, none⟩ = some (.int .i64 (W : Nat)) ∧ w'.cell? ⟨w.heap.size, 1, none⟩ = some (.int .i64 (H : Nat)) ∧ w'.cell? ⟨w.heap.size, 2, none⟩ = some (.slice (some ⟨ga, 0, none⟩) n4 cap')) (by kernel_rfl) ⟨k0, k1, k2⟩ (fun hHeld => ?_)
        refine wpAnyH_take (i := 0) (oi := ⟨some 127, _, _, _, _, _⟩) (v := ?v0) rfl (by kernel_rfl) (by kernel_rfl) (by kernel_rfl) (fun _ _ _ h => h) (Or.inl ⟨by rfl, ?y0⟩) hHeld ?r0
        case y0 => ((intro w hSw); (try dsimp only at hSw); go_simp; try with_reducible rfl)
        try simp only [Act.put, List.setIfInBounds_toArray, List.set_cons_zero, List.set_cons_succ]
        refine wpAnyH_take (i := 1) (oi := ⟨some 128, _, _, _, _, _⟩) (v := ?v1) rfl (by kernel_rfl) (by kernel_rfl) (by kernel_rfl) (fun _ _ _ h => h) (Or.inl ⟨by rfl, ?y1⟩) hHeld ?r1
        case y1 => ((intro w hSw); (try dsimp only at hSw); go_simp; try with_reducible rfl)
        try simp only [Act.put, List.setIfInBounds_toArray, List.set_cons_zero, List.set_cons_succ]
        refine wpAnyH_take (i := 2) (oi := ⟨some 129, _, _, _, _, _⟩) (v := ?v2) rfl (by kernel_rfl) (by kernel_rfl) (by kernel_rfl) (fun _ _ _ h => h) (Or.inl ⟨by rfl, ?y2⟩) hHeld ?r2
        case y2 => ((intro w hSw); (try dsimp only at hSw); go_simp; try with_reducible rfl)
        try simp only [Act.put, List.setIfInBounds_toArray, List.set_cons_zero, List.set_cons_succ]
        refine wpAnyH_take (i := 3) (oi := ⟨some 130, _, _, _, _, _⟩) (v := ?v3) rfl (by kernel_rfl) (by kernel_rfl) (by kernel_rfl) (fun _ _ _ h => h) (Or.inl ⟨by rfl, ?y3⟩) hHeld ?r3
        case y3 => ((intro w hSw); (try dsimp only at hSw); go_simp; try with_reducible rfl)
        try simp only [Act.put, List.setIfInBounds_toArray, List.set_cons_zero, List.set_cons_succ]
        refine wpAnyH_take (i := 4) (oi := ⟨some 131, _, _, _, _, _⟩) (v := ?v4) rfl (by kernel_rfl) (by kernel_rfl) (by kernel_rfl) (fun _ _ _ h => h) (Or.inl ⟨by rfl, ?y4⟩) hHeld ?r4
        case y4 => ((intro w hSw); (try dsimp only at hSw); go_simp; try with_reducible rfl)
        try simp only [Act.put, List.setIfInBounds_toArray, List.set_cons_zero, List.set_cons_succ]
        refine wpAnyH_take (i := 5) (oi := ⟨some 132, _, _, _, _, _⟩) (v := ?v5) rfl (by kernel_rfl) (by kernel_rfl) (by kernel_rfl) (fun _ _ _ h => h) (Or.inl ⟨by rfl, ?y5⟩) hHeld ?r5
        case y5 => ((intro w hSw); (try dsimp only at hSw); go_simp; try with_reducible rfl)
        try simp only [Act.put, List.setIfInBounds_toArray, List.set_cons_zero, List.set_cons_succ]
        refine wpAnyH_take (i := 6) (oi := ⟨some 133, _, _, _, _, _⟩) (v := ?v6) rfl (by kernel_rfl) (by kernel_rfl) (by kernel_rfl) (fun _ _ _ h => h) (Or.inl ⟨by rfl, ?y6⟩) hHeld ?r6
        case y6 => ((intro w hSw); (try dsimp only at hSw); go_simp; try with_reducible rfl)
        try simp only [Act.put, List.setIfInBounds_toArray, List.set_cons_zero, List.set_cons_succ]
        refine wpAnyH_take (i := 7) (oi := ⟨some 134, _, _, _, _, _⟩) (v := ?v7) rfl (by kernel_rfl) (by kernel_rfl) (by kernel_rfl) (fun _ _ _ h => h) (Or.inl ⟨by rfl, ?y7⟩) hHeld ?r7
        case y7 => ((intro w hSw); (try dsimp only at hSw); go_simp; try with_reducible rfl)
        try simp only [Act.put, List.setIfInBounds_toArray, List.set_cons_zero, List.set_cons_succ]
        refine wpAnyH_take (i := 8) (oi := ⟨some 135, _, _, _, _, _⟩) (v := ?v8) rfl (by kernel_rfl) (by kernel_rfl) (by kernel_rfl) (fun _ _ _ h => h) (Or.inl ⟨by rfl, ?y8⟩) hHeld ?r8
        case y8 => ((intro w hSw); (try dsimp only at hSw); go_simp; try with_reducible rfl)
        try simp only [Act.put, List.setIfInBounds_toArray, List.set_cons_zero, List.set_cons_succ]
        refine wpAnyH_take (i := 9) (oi := ⟨some 136, _, _, _, _, _⟩) (v := ?v9) rfl (by kernel_rfl) (by kernel_rfl) (by kernel_rfl) (fun _ _ _ h => h) (Or.inl ⟨by rfl, ?y9⟩) hHeld ?r9
        case y9 => ((intro w hSw); (try dsimp only at hSw); go_simp; try with_reducible rfl)
        try simp only [Act.put, List.setIfInBounds_toArray, List.set_cons_zero, List.set_cons_succ]
        refine wpAnyH_take (i := 10) (oi := ⟨some 137, _, _, _, _, _⟩) (v := ?v10) rfl (by kernel_rfl) (by kernel_rfl) (by kernel_rfl) (fun _ _ _ h => h) (Or.inl ⟨by rfl, ?y10⟩) hHeld ?r10
        case y10 => ((intro w hSw); (try dsimp only at hSw); go_simp; try with_reducible rfl)
        try simp only [Act.put, List.setIfInBounds_toArray, List.set_cons_zero, List.set_cons_succ]
        refine wpAnyH_ready (rs := [11]) (by kernel_rfl) (by simp) (AllReadyH.cons (o := ⟨some 138, _, _, _, _, _⟩) rfl (fun K hK => ?_) AllReadyH.nil)
        go_simp
        refine (pixel_no x N1 Z1 cz1 _ hx2 hx8).mono ?_
        rintro e w9 ⟨hp, hB⟩
        obtain rfl := hp
        dsimp +zetaDelta only [Exit.inBlock, Exit.then, bodyPost]
        refine ⟨rfl, ?_⟩
        rw [HE6.out]
        exact ⟨HCw.out.trans (Chg.of_below (((Below.refl _ wc).drew).trans hB)), .inr ⟨by decide, rfl⟩⟩
      have hE5 := HE5.out
      rw [if_neg hx2, tabC_at b q1 N1 x (by omega), Option.getD_some, ← HY.out, ← HM.out, ← HZZ.out] at hE5
      have HE6 := Lib.hid hE5
      obtain ⟨P, hP⟩ : ∃ P, P = tabP b q1 x := ⟨_, rfl⟩
      have HP := Lib.hid hP
      have hE6 := HE6.out
      have hPX := HPX.out
      rw [← hP] at hE6 hPX
      have hPXd := hPX.below ((Below.refl _ wc).drew)
      have HE7 := Lib.hid hE6
      have hin : inB (W : Nat) (H : Nat) n4 ((le + M : Nat) : Int) ((tp + Z : Nat) : Int) = true := inB_xy (by rw [mayB, decide_eq_true_eq]; exact ⟨HZ.out, by rw [HN4.out, Int.mul_assoc]; simp⟩) (by omega) (by omega)
      have HIN := Lib.hid hin
      clear hE5 HE5 HE6 hE6 hP hin HPX
      have hgaw : w.heap.size ≠ ga := by omega
      go_region_held3 (fun w' => w'.cell? ⟨w.heap.size, 0, none⟩ = some (.int .i64 (W : Nat)) ∧ w'.cell? ⟨w.heap.size, 1, none⟩ = some (.int .i64 (H : Nat)) ∧ w'.cell? ⟨w.heap.size, 2, none⟩ = some (.slice (some ⟨ga, 0, none⟩) n4 cap') ∧ PixS wc ga n4 ck (setC ck ((tp + Z) * W + (le + M)) P) w')
        (first | go_keep | (go_split_ands; refine ⟨?_, ?_, ?_, ?_⟩ <;> first | with_reducible assumption | (with_reducible refine cell_bel hB ?_; with_reducible assumption) | (with_reducible refine PixS.below ?_ hB; with_reducible assumption)))
        (first | (go_at_call 48; refine (pixel_S g q1 N1 x b HBT.out Z1 cz1 wc HSw.out (by omega) hx8 hN1 ga n4 hga ck (setC ck ((tp + Z) * W + (le + M)) P) P HP.out _ (by first | with_reducible assumption | (go_split_ands; with_reducible assumption))).mono ?_; rintro e w9 ⟨rfl, hB⟩) | (go_at_call 47; refine (set_S W H n4 cap' (le + M) (tp + Z) ga P hcap hmax (by omega) (by omega) HIN.out wc ck _ _ (by simp) (by simp) _ (by first | with_reducible assumption | (go_split_ands; with_reducible assumption))).mono ?_; rintro e w10 ⟨rfl, hP9, hO9, hK9⟩; go_split_ands; have hq0 := cell_chg hK9 (p := ⟨w.heap.size, 0, none⟩) (by simp; omega) (by with_reducible assumption); have hq1 := cell_chg hK9 (p := ⟨w.heap.size, 1, none⟩) (by simp; omega) (by with_reducible assumption); have hq2 := cell_chg hK9 (p := ⟨w.heap.size, 2, none⟩) (by simp; omega) (by with_reducible assumption); clear hK9) | fail)
      have HP10 := Lib.hid (show PixS wc ga n4 ck (setC ck ((tp + Z) * W + (le + M)) P) w10 by first | with_reducible assumption | (go_split_ands; with_reducible assumption))
      have HO10 := Lib.hid hO9
      clear hO9 hB
      go_wp2_with fail
      go_roundw
      case rel => exact ⟨k + 1, _, hlt, by go_num, HC.out.trans HP10.out.chg, HO10.out, HE7⟩
      case measure => simp [intOf]; omega
    · have HK := Lib.hid (show k = F by omega)
      go_wp2_with fail
      go_end0
      have hrr2 := hrr.out
      rw [HK.out, List.drop_of_length_le (by rw [HVF.out]; exact Nat.le_refl _), drawG] at hrr2
      rw [hrr2]
      exact ⟨HCw.out, .inl ⟨rfl, rfl, HO.out⟩⟩
end Go.Proofs.Ytkjlejkcedemlaa

namespace Go.Proofs.Ytkjlejkcedemlaa
set_option maxRecDepth 100000
set_option linter.unusedVariables false
open Go.ChangeShapes Go.WideShapes Go.ChangeAt Go.RowKit

theorem GdS.setClear {g m p : Nat} {b : Nat → Nat} {T : Value} {cl : Int} {w : World} (h : GdS g m p b T cl w) (c2 : Int) : GdS g m p b T c2 (w.setCell ⟨g, 2, none⟩ (.int .i64 c2)) := by
  obtain ⟨h1, h2, Z, cz, h3, h4, h5, h6, h7, h8⟩ := h
  have hw : Chg [g] w (w.setCell ⟨g, 2, none⟩ (.int .i64 c2)) := (Chg.refl [g] w).set (g := g) (.inl (by simp)) 2 _
  exact ⟨by simpa [World.setCell] using h1, h2, Z, cz, heap_set h3, h4, h5, h6, h7, h8.chgG hw h7⟩
def morePost (g m p : Nat) (b : Nat → Nat) (T : Value) (cl : Int) (w : World) (e : Ending) (w' : World) : Prop :=
  Chg [g] w w' ∧ ((e = .returned (.tuple #[]) ∧ ∃ (p' : Nat) (cl' : Int), p + 2 ≤ p' ∧ (-1 ≤ cl' ∧ cl' < 256) ∧ GdS g m p' b T cl' w' ∧ ∀ W H cols K, partsG b m W H cols (K + 1) p cl = partsG b m W H cols K p' cl') ∨
    (∃ q : Nat, q ≠ 0 ∧ PanE (q : Nat) e ∧ ∀ W H cols K, partsG b m W H cols (K + 1) p cl = (noP, q)))
set_option maxRecDepth 100000 in
set_option maxHeartbeats 2000000 in
theorem more_g (g m p : Nat) (b : Nat → Nat) (hbt : ∀ i, b i < 256) (hsm : m ≤ 262144) (T : Value) (cl : Int) (hcl : -1 ≤ cl ∧ cl < 256) (hp : p < m) (hb : b p = 33) (w : World) (hG : GdS g m (p + 1) b T cl w) :
    Calls Try.prog 39 #[.pointer (some ⟨g, 0, none⟩)] w (morePost g m p b T cl w) := by
  have hR : ∀ W H cols K, partsG b m W H cols (K + 1) p cl = (if m ≤ p + 1 then (noP, 2)
    else if (unV (fun i => b (p + 2 + i)) (m - (p + 2))).2.2 ≠ 0 then (noP, (unV (fun i => b (p + 2 + i)) (m - (p + 2))).2.2)
    else if b (p + 1) = 249 then
      if (unV (fun i => b (p + 2 + i)) (m - (p + 2))).1.length ≠ 4 then (noP, 4)
      else partsG b m W H cols K (p + 2 + (unV (fun i => b (p + 2 + i)) (m - (p + 2))).2.1) (if gz (unV (fun i => b (p + 2 + i)) (m - (p + 2))).1 0 % 2 = 1 then ((gz (unV (fun i => b (p + 2 + i)) (m - (p + 2))).1 3 : Nat) : Int) else -1)
    else partsG b m W H cols K (p + 2 + (unV (fun i => b (p + 2 + i)) (m - (p + 2))).2.1) cl) := fun W H cols K => by
    rw [partsG, if_neg (by omega), if_neg (by omega), if_neg (by omega)]
  have HR := Lib.hid hR
  have HBT := Lib.hid hbt
  have HG := Lib.hid hG
  have hgl0 := hG.lt
  clear hR hG hbt
  go_enter Try.func39, Try.ntmps39
  go_wp2_with fail
  by_cases d1 : m ≤ p + 1
  · refine (take_no g m (p + 1) 1 b T cl w HG.out (by omega) (by omega)).mono ?_
    rintro e w2 ⟨hpe, rfl⟩
    obtain rfl := hpe
    go_wp2_with fail
    exact ⟨rfl, Chg.refl _ _, .inr ⟨2, by decide, rfl, fun W H cols K => by rw [HR.out, if_pos d1]⟩⟩
  refine (take_yes g m (p + 1) 1 b T cl w HG.out (by omega) (by omega)).mono ?_
  rintro e w1 ⟨Z, cz, rfl, hS, hG1, hC1⟩
  have hC1s := hC1.size
  obtain ⟨b5, o5, rfl, _, hcl5⟩ := hS.byt (by omega)
  have c0 : w1.cell? ⟨b5, o5, none⟩ = some (.int .u8 (b (p + 1) : Nat)) := hcl5 0 (by omega)
  have hb0 := HBT.out (p + 1)
  obtain ⟨y, hy⟩ : ∃ x, x = b (p + 1) := ⟨_, rfl⟩
  rw [← hy] at c0 hb0
  obtain ⟨U, hU⟩ : ∃ U, U = unV (fun i => b (p + 2 + i)) (m - (p + 2)) := ⟨_, rfl⟩
  have hR := HR.out
  rw [← hU, ← hy] at hR
  have hu1 := un_lt (b := fun i => b (p + 2 + i)) (fun i => HBT.out _) (m - (p + 2))
  rw [← hU] at hu1
  have HU1 := Lib.hid hu1
  have HU := Lib.hid hU
  have HR1 := Lib.hid hR
  have HG1 := Lib.hid hG1
  have HC1 := Lib.hid hC1
  have HY := Lib.hid hy
  clear hu1 hU hR hG1 hC1 hy HR hS hcl5 HG
  go_wp2_with fail
  refine (pieces_g g m (p + 2) b HBT.out T cl w1 HG1.out (by omega) U HU.out).mono ?_
  obtain ⟨U1, U2, U3⟩ := U
  have hR := HR1.out
  dsimp only at hR ⊢
  have HR := Lib.hid hR
  have HU1' : Hid (∀ v ∈ U1, v < 256) := Lib.hid HU1.out
  clear hR HR1 HU HU1
  rintro e w2 (⟨rfl, A2, cap2, rfl, hN2, hG2, hC2⟩ | ⟨hu3, hpe, hB2⟩)
  case inr =>
    have HU3 := Lib.hid hu3
    have HC2 := Lib.hid (HC1.out.trans (Chg.of_below hB2))
    clear hu3 hB2
    obtain rfl := hpe
    go_wp2_with fail
    exact ⟨rfl, HC2.out, .inr ⟨U3, HU3.out, rfl, fun W H cols K => by rw [HR.out, if_neg d1, if_pos HU3.out]⟩⟩
  have HN2 := Lib.hid hN2
  have HG2 := Lib.hid hG2
  have HC2 := Lib.hid (HC1.out.trans hC2)
  clear hN2 hG2 hC2 HG1 HC1
  by_cases d2 : y = 249
  case neg =>
    have t2 : ((y : Int) != 249) = true := by simp; omega
    have HD := Lib.hid d2
    clear d2
    go_wp2_with fail
    go_end0
    exact ⟨HC2.out, .inl ⟨rfl, p + 2 + U2, cl, by omega, hcl, HG2.out, fun W H cols K => by rw [HR.out, if_neg d1, if_neg (by omega), if_neg HD.out]⟩⟩
  have t2 : ((y : Int) != 249) = false := by simp; omega
  by_cases d3 : U1.length = 4
  case neg =>
    have t3 : ((U1.length : Int) == 4) = false := by simp; omega
    have HD := Lib.hid d3
    clear d3
    go_wp2_with fail
    refine (gmust_no 4 _).mono ?_
    rintro e w3 ⟨hpe, rfl⟩
    obtain rfl := hpe
    go_wp2_with fail
    exact ⟨rfl, HC2.out, .inr ⟨4, by decide, rfl, fun W H cols K => by rw [HR.out, if_neg d1, if_neg (by omega), if_pos d2, if_pos HD.out]⟩⟩
  have t3 : ((U1.length : Int) == 4) = true := by simp; omega
  obtain ⟨b4, o4, hA4, hb4, hc4⟩ := HN2.out.byt (by omega)
  have hfar : w1.heap.size ≤ b4 := HN2.out.far _ hA4
  have hgl : g < w1.heap.size := by have := hC1s; omega
  have u0 := hc4 0 (by omega)
  have u3 := hc4 3 (by omega)
  have v0 := gz_lt8 HU1'.out 0
  have v3 := gz_lt8 HU1'.out 3
  obtain ⟨X, hX⟩ : ∃ X, X = gz U1 0 := ⟨_, rfl⟩
  obtain ⟨Y, hY⟩ : ∃ Y, Y = gz U1 3 := ⟨_, rfl⟩
  have hR := HR.out
  rw [← hX, ← hY] at hR
  rw [← hX] at u0 v0
  rw [← hY] at u3 v3
  rw [Nat.add_zero] at u0
  rw [d3]
  have HR2 := Lib.hid hR
  have hb4g : ¬ b4 = g := by omega
  obtain ⟨_, _, Z2, cz2, hh2, _⟩ := HG2.out
  have g2 := hp_cell (j := 2) hh2 rfl
  have gf := hp_froz hh2
  have HGa := Lib.hid (HG2.out.setClear (-1))
  have HCa := Lib.hid (HC2.out.trans ((Chg.refl [g] w2).set (g := g) (.inl (by simp)) 2 (.int .i64 (-1))))
  have u0' : (w2.setCell ⟨g, 2, none⟩ (.int .i64 (-1))).cell? ⟨b4, o4, none⟩ = some (.int .u8 (X : Nat)) := cell_chg (S := [g]) ((Chg.refl [g] w2).set (g := g) (.inl (by simp)) 2 _) (by simp; omega) u0
  have u3' : (w2.setCell ⟨g, 2, none⟩ (.int .i64 (-1))).cell? ⟨b4, o4 + 3, none⟩ = some (.int .u8 (Y : Nat)) := cell_chg (S := [g]) ((Chg.refl [g] w2).set (g := g) (.inl (by simp)) 2 _) (by simp; omega) u3
  have HGb := Lib.hid (HGa.out.setClear (Y : Int))
  have HCb := Lib.hid (HCa.out.trans ((Chg.refl [g] _).set (g := g) (.inl (by simp)) 2 (.int .i64 (Y : Int))))
  subst hA4
  clear hc4 hX hY hR HN2 hh2 HG2 HC2 HR c0
  by_cases d8 : X % 2 = 1
  · have t8 : ((X : Int) % 2 == 1) = true := by simp; omega
    have t9 := and1 X v0
    rw [decide_eq_true d8] at t9
    have HD := Lib.hid d8
    clear d8
    go_wp2_with fail
    refine (gmust_yes 4 _).mono ?_
    rintro e w3 ⟨rfl, rfl⟩
    go_wp2_with fail
    go_end0
    exact ⟨HCb.out, .inl ⟨rfl, p + 2 + U2, (Y : Int), by omega, ⟨by omega, by omega⟩, HGb.out, fun W H cols K => by rw [HR2.out, if_neg d1, if_neg (by omega), if_pos d2, if_neg (by omega), if_pos HD.out]⟩⟩
  · have t8 : ((X : Int) % 2 == 1) = false := by simp; omega
    have t9 := and1 X v0
    rw [decide_eq_false d8] at t9
    have HD := Lib.hid d8
    clear d8
    go_wp2_with fail
    refine (gmust_yes 4 _).mono ?_
    rintro e w3 ⟨rfl, rfl⟩
    go_wp2_with fail
    go_end0
    exact ⟨HCa.out, .inl ⟨rfl, p + 2 + U2, -1, by omega, ⟨by omega, by omega⟩, HGa.out, fun W H cols K => by rw [HR2.out, if_neg d1, if_neg (by omega), if_pos d2, if_neg (by omega), if_neg HD.out]⟩⟩
end Go.Proofs.Ytkjlejkcedemlaa
