/- bmpread: head. -/
import Derived.Test.YthgafdbdmemkhaaDoorM16

namespace Go.Proofs.YthgafdbdmemkhaaDoor
set_option maxRecDepth 100000
set_option linter.unusedVariables false
open Go.ChangeShapes Go.WideShapes Go.ChangeAt Go.RowKit

section
variable {d : Nat → Nat} {m : Nat}
theorem headE_1 (h : m < 54) : headE d m = 2 := by rw [headE, if_pos h]
theorem headE_2 (h : ¬m < 54) (h2 : ¬(d 0 = 66 ∧ d 1 = 77)) : headE d m = 4 := by rw [headE, if_neg h, if_pos h2]
theorem headE_3 (h : ¬m < 54) (h2 : d 0 = 66 ∧ d 1 = 77) (h3 : ¬(bmS d = 40 ∨ bmS d = 108)) : headE d m = 4 := by rw [headE, if_neg h, if_neg (not_not_intro h2), if_pos h3]
theorem headE_4 (h : ¬m < 54) (h2 : d 0 = 66 ∧ d 1 = 77) (h3 : bmS d = 40 ∨ bmS d = 108) (h4 : m < 14 + bmS d) : headE d m = 2 := by rw [headE, if_neg h, if_neg (not_not_intro h2), if_neg (not_not_intro h3), if_pos h4]
theorem headE_5 (h : ¬m < 54) (h2 : d 0 = 66 ∧ d 1 = 77) (h3 : bmS d = 40 ∨ bmS d = 108) (h4 : ¬m < 14 + bmS d) (h5 : ¬(lowD d 26 2 = 1 ∧ 0 < bmW d ∧ bmH d ≠ 0 ∧ bmFine (bmBits d) (bmK d) (bmH d) = true)) : headE d m = 4 := by rw [headE, if_neg h, if_neg (not_not_intro h2), if_neg (not_not_intro h3), if_neg h4, if_pos h5]
theorem headE_6 (h : ¬m < 54) (h2 : d 0 = 66 ∧ d 1 = 77) (h3 : bmS d = 40 ∨ bmS d = 108) (h4 : ¬m < 14 + bmS d) (h5 : lowD d 26 2 = 1 ∧ 0 < bmW d ∧ bmH d ≠ 0 ∧ bmFine (bmBits d) (bmK d) (bmH d) = true) (h6 : sizeE (bmW d) ((bmH d).natAbs : Nat) ≠ 0) : headE d m = 6 := by rw [headE, if_neg h, if_neg (not_not_intro h2), if_neg (not_not_intro h3), if_neg h4, if_neg (not_not_intro h5), if_pos h6]
theorem headE_0 (h : ¬m < 54) (h2 : d 0 = 66 ∧ d 1 = 77) (h3 : bmS d = 40 ∨ bmS d = 108) (h4 : ¬m < 14 + bmS d) (h5 : lowD d 26 2 = 1 ∧ 0 < bmW d ∧ bmH d ≠ 0 ∧ bmFine (bmBits d) (bmK d) (bmH d) = true) (h6 : ¬sizeE (bmW d) ((bmH d).natAbs : Nat) ≠ 0) : headE d m = 0 := by rw [headE, if_neg h, if_neg (not_not_intro h2), if_neg (not_not_intro h3), if_neg h4, if_neg (not_not_intro h5), if_neg h6]
end
theorem size_n4 {W : Int} {H : Nat} (h : sizeE W (H : Nat) = 0) : ∃ N4 : Nat, (4 * W * (H : Int)).toNat = N4 ∧ (N4 : Int) = 4 * W * (H : Int) ∧ 0 < N4 := by
  obtain ⟨s1, s2, s3, s4, s5⟩ := size_ok h
  have h1 : 1 ≤ W * (H : Int) := by
    have := Int.mul_le_mul s1 s3 (by omega) (by omega)
    omega
  rw [Int.mul_assoc]
  exact ⟨_, rfl, by omega, by omega⟩
/-- A picture is made, or none may be. -/
def HdpR (w2 : World) (W H : Int) (s2 s3 : Value) (wx : World) : Prop := Chg [] w2 wx ∧
  ((sizeE W H = 0 ∧ s3 = .int .i64 0 ∧ ∃ (rb ga n4 cap : Nat), (n4 : Int) = 4 * W * H ∧ s2 = .pointer (some ⟨rb, 0, none⟩) ∧ wx.heap[rb]? = some (.cells #[.int .i64 W, .int .i64 H, .slice (some ⟨ga, 0, none⟩) n4 cap] 24 (0, 0)) ∧ Own 0 wx (some ⟨ga, 0, none⟩) n4 noB ∧ n4 ≤ cap ∧ cap ≤ maxLen ∧ w2.heap.size ≤ ga ∧ rb ≠ ga ∧ w2.heap.size ≤ rb) ∨
   (sizeE W H ≠ 0 ∧ s3 = .int .i64 (sizeE W H)))
theorem hdp_bad {w2 v : World} {W H : Int} {rb : Nat} {s2 v0 v1 v2 : Value} (hb : Below w2.heap.size w2 v) (hrl : w2.heap.size ≤ rb) (hz : sizeE W H ≠ 0) :
    HdpR w2 W H s2 (.int .i64 (sizeE W H)) (((v.setCell ⟨rb, 0, none⟩ v0).setCell ⟨rb, 1, none⟩ v1).setCell ⟨rb, 2, none⟩ v2) :=
  ⟨((((Chg.of_below hb).set (g := rb) (.inr hrl) 0 _).set (g := rb) (.inr hrl) 1 _).set (g := rb) (.inr hrl) 2 _), .inr ⟨hz, rfl⟩⟩
theorem hdp_good {w2 v : World} {W H : Int} {rb ga n4 cap : Nat} (hn4 : (n4 : Int) = 4 * W * H) (hb : Below w2.heap.size w2 v) (hx : v.heap[rb]? = some (.cells #[.int .i64 0, .int .i64 0, .slice none 0 0] 24 (0, 0))) (hO : Own 0 v (some ⟨ga, 0, none⟩) n4 (fun _ => 0)) (hrl : w2.heap.size ≤ rb) (hgw : w2.heap.size ≤ ga) (hne : rb ≠ ga) (hn : n4 ≤ cap) (hc : cap ≤ maxLen) (hz : sizeE W H = 0) :
    HdpR w2 W H (.pointer (some ⟨rb, 0, none⟩)) (.int .i64 0) (((v.setCell ⟨rb, 0, none⟩ (.int .i64 W)).setCell ⟨rb, 1, none⟩ (.int .i64 H)).setCell ⟨rb, 2, none⟩ (.slice (some ⟨ga, 0, none⟩) n4 cap)) := by
  refine ⟨((((Chg.of_below hb).set (g := rb) (.inr hrl) 0 _).set (g := rb) (.inr hrl) 1 _).set (g := rb) (.inr hrl) 2 _), .inl ⟨hz, rfl, rb, ga, n4, cap, hn4, rfl, heap_set (heap_set (heap_set hx)), fun h0 => ?_, hn, hc, hgw, hne, hrl⟩⟩
  obtain ⟨k, cur, he, h1, hg, h2⟩ := hO h0
  cases he
  exact ⟨ga, cur, rfl, h1, hp_oth (hp_oth (hp_oth hg (fun e => hne e.symm)) (fun e => hne e.symm)) (fun e => hne e.symm), h2⟩
theorem HdS.chg0 {g m : Nat} {A : Option Addr} {d : Nat → Nat} {cs : Array Value} {w w' : World} (h : HdS g m A d cs w) (hc : Chg [] w w') : HdS g m A d cs w' :=
  ⟨hp_chg h.hR hc (by simp), h.hB.chg hc (fun _ _ _ => by simp), h.hT.chg hc (by simp)⟩
/-- A head that is fine up to its size. -/
def HeadF (d : Nat → Nat) (m : Nat) : Prop := 54 ≤ m ∧ (d 0 = 66 ∧ d 1 = 77) ∧ (bmS d = 40 ∨ bmS d = 108) ∧ 14 + bmS d ≤ m ∧ lowD d 26 2 = 1 ∧ 0 < bmW d ∧ bmH d ≠ 0 ∧ bmFine (bmBits d) (bmK d) (bmH d) = true
def NilS : Value := .slice none 0 0
/-- The reader's cells behind the head, the picture is r0 r1 r2. -/
def hdC (A : Option Addr) (m cap : Nat) (d : Nat → Nat) (H : Int) (r0 r1 r2 : Value) : Array Value :=
  rdC A m cap (bmOff d) (bmS d) (bmW d) H (decide (bmH d < 0)) (bmBits d) (bmK d) (lowD d 46 4) noB (.slice none 0 0) r0 r1 r2 0 0 0 (14 + bmS d)
/-- What head came to. -/
def HeadR (g m cap : Nat) (A : Option Addr) (d : Nat → Nat) (w : World) (E : Nat) (e : Ending) (w' : World) : Prop :=
  Chg [g] w w' ∧ (E ≠ 0 ∧ PanB E e ∨ E = 0 ∧ HeadF d m ∧ sizeE (bmW d) ((bmH d).natAbs : Nat) = 0 ∧ e = .returned (.tuple #[]) ∧ ∃ (ga n4 cap' : Nat), (n4 : Int) = 4 * bmW d * ((bmH d).natAbs : Nat) ∧ n4 ≤ cap' ∧ cap' ≤ maxLen ∧ w.heap.size ≤ ga ∧
    HdS g m A d (hdC A m cap d ((bmH d).natAbs : Nat) (.int .i64 (bmW d)) (.int .i64 ((bmH d).natAbs : Nat)) (.slice (some ⟨ga, 0, none⟩) n4 cap')) w' ∧ Own 0 w' (some ⟨ga, 0, none⟩) n4 noB)
set_option maxRecDepth 100000 in
set_option maxHeartbeats 8000000 in
theorem head_b (g m cap : Nat) (A : Option Addr) (d : Nat → Nat) (w : World) (K : HdC g m cap A d) (h : HdS g m A d (rdC A m cap 0 0 0 0 false 0 0 0 noB (.slice none 0 0) (.int .i64 0) (.int .i64 0) (.slice none 0 0) 0 0 0 0) w) :
    Calls Tryd.prog 42 #[.pointer (some ⟨g, 0, none⟩)] w (HeadR g m cap A d w (headE d m)) := by
  obtain ⟨E, hE⟩ : ∃ E, E = headE d m := ⟨_, rfl⟩
  rw [← hE]
  have HE := Lib.hid hE
  have HK := Lib.hid K
  have HS := Lib.hid h
  have hmm := K.hm
  have c0 : w.cell? ⟨g, 0, none⟩ = some (.slice A m cap) := h.cell rfl
  clear hE h K
  go_enter Tryd.func42, Tryd.ntmps42
  by_cases h1 : m < 54
  · have t1 : decide ((54 : Int) ≤ (m : Int)) = false := by simp; omega
    go_wp2_with fail
    refine (bmust_no 2 _).mono ?_
    rintro e w1 ⟨hp, rfl⟩
    obtain rfl := hp
    go_wp2_with fail
    exact ⟨rfl, Chg.refl _ _, .inl (by rw [HE.out, headE_1 h1]; exact ⟨by decide, rfl⟩)⟩
  have t1 : decide ((54 : Int) ≤ (m : Int)) = true := by simp; omega
  obtain ⟨bk, of, hAe, hcl⟩ := HS.out.byt (by omega)
  have b0 := hcl 0 (by omega)
  have b1 := hcl 1 (by omega)
  rw [Nat.add_zero] at b0
  have i1 : (0 : Int) < (m : Int) := by omega
  have i2 : (1 : Int) < (m : Int) := by omega
  have i3 : 0 < m := by omega
  have i4 : 1 < m := by omega
  rw [hAe] at c0
  obtain ⟨x, hx⟩ : ∃ x, x = d 0 := ⟨_, rfl⟩
  obtain ⟨y, hy⟩ : ∃ y, y = d 1 := ⟨_, rfl⟩
  rw [← hx] at b0
  rw [← hy] at b1
  have HXY := Lib.hid (And.intro hx hy)
  have HAE := Lib.hid hAe
  clear hcl hAe hx hy
  by_cases h2 : ¬(x = 66 ∧ y = 77)
  · have HX2 : Hid (headE d m = 4) := Lib.hid (headE_2 h1 (by rw [← HXY.out.1, ← HXY.out.2]; exact h2))
    by_cases hx : x = 66
    · have z1 : ((x : Int) == 66) = true := eqn_t (b := 66) hx
      have z2 : ((y : Int) == 77) = false := eqn_f (b := 77) (by omega)
      clear h2 hx
      go_wp2_with fail
      refine (bmust_yes 2 _).mono ?_
      rintro e w1 ⟨rfl, rfl⟩
      go_wp2_with fail
      refine (bmust_no 4 _).mono ?_
      rintro e w1 ⟨hp, rfl⟩
      obtain rfl := hp
      go_wp2_with fail
      exact ⟨rfl, Chg.refl _ _, .inl (by rw [HE.out, HX2.out]; exact ⟨by decide, rfl⟩)⟩
    · have z1 : ((x : Int) == 66) = false := eqn_f (b := 66) hx
      clear h2 hx
      go_wp2_with fail
      refine (bmust_yes 2 _).mono ?_
      rintro e w1 ⟨rfl, rfl⟩
      go_wp2_with fail
      refine (bmust_no 4 _).mono ?_
      rintro e w1 ⟨hp, rfl⟩
      obtain rfl := hp
      go_wp2_with fail
      exact ⟨rfl, Chg.refl _ _, .inl (by rw [HE.out, HX2.out]; exact ⟨by decide, rfl⟩)⟩
  have h2' : x = 66 ∧ y = 77 := Classical.not_not.1 h2
  have z1 : ((x : Int) == 66) = true := eqn_t (b := 66) h2'.1
  have z2 : ((y : Int) == 77) = true := eqn_t (b := 77) h2'.2
  have HX2 : Hid (d 0 = 66 ∧ d 1 = 77) := Lib.hid (by rw [← HXY.out.1, ← HXY.out.2]; exact h2')
  clear h2 h2'
  go_wp2_with fail
  refine (bmust_yes 2 _).mono ?_
  rintro e w1 ⟨rfl, rfl⟩
  go_wp2_with fail
  refine (bmust_yes 4 _).mono ?_
  rintro e w1 ⟨rfl, rfl⟩
  go_wp2_with fail
  clear b0 b1 z1 z2 HXY c0 t1 i1 i2 i3 i4
  refine (four_h HK.out HS.out rfl 10 (by omega)).mono ?_
  rintro e w1 ⟨rfl, hC1, hS1⟩
  have HC1 := Lib.hid hC1
  have HS1 := Lib.hid hS1
  clear hC1 hS1 HS
  go_wp2_with fail
  refine (four_h HK.out HS1.out rfl 14 (by omega)).mono ?_
  rintro e w2 ⟨rfl, hC2, hS2⟩
  obtain ⟨off, hoff⟩ : ∃ off, off = lowD d 10 4 := ⟨_, rfl⟩
  obtain ⟨S, hS⟩ : ∃ S, S = lowD d 14 4 := ⟨_, rfl⟩
  rw [← hoff, ← hS]
  have HOF := Lib.hid (And.intro hoff hS)
  have HC2 := Lib.hid (HC1.out.trans hC2)
  have HS2 := Lib.hid hS2
  have c1 : w2.cell? ⟨g, 1, none⟩ = some (.int .i64 (0 : Nat)) := hS2.cell rfl
  have c2 : (w2.setCell ⟨g, 1, none⟩ (.int .i64 (off : Nat))).cell? ⟨g, 2, none⟩ = some (.int .i64 (0 : Nat)) := (hS2.set HK.out 1 (.int .i64 (off : Nat))).cell rfl
  have f2 := hp_froz hS2.hR
  have f3 := hp_froz (hS2.set HK.out 1 (.int .i64 (off : Nat))).hR
  clear hC2 hS2 HC1 HS1 hoff hS
  go_upto_region 3 with fail
  have hS3 := (HS2.out.set HK.out 1 (.int .i64 (off : Nat))).set HK.out 2 (.int .i64 (S : Nat))
  have HC3 := Lib.hid ((HC2.out.set (g := g) (.inl (by simp)) 1 (.int .i64 (off : Nat))).set (g := g) (.inl (by simp)) 2 (.int .i64 (S : Nat)))
  have HS3 : Hid (HdS g m A d (rdC A m cap off S 0 0 false 0 0 0 noB (.slice none 0 0) (.int .i64 0) (.int .i64 0) (.slice none 0 0) 0 0 0 0) _) := Lib.hid hS3
  clear hS3 HS2 HC2 f2 f3 c1 c2
  generalize (w2.setCell ⟨g, 1, none⟩ (.int .i64 (off : Nat))).setCell ⟨g, 2, none⟩ (.int .i64 (S : Nat)) = w3 at *
  have c0 : w3.cell? ⟨g, 0, none⟩ = some (.slice A m cap) := HS3.out.cell rfl
  have c2 : w3.cell? ⟨g, 2, none⟩ = some (.int .i64 (S : Nat)) := HS3.out.cell rfl
  have f3 := hp_froz HS3.out.hR
  by_cases h3 : ¬(S = 40 ∨ S = 108)
  · have HX3 : Hid (headE d m = 4) := Lib.hid (headE_3 h1 HX2.out (by unfold bmS; rw [← HOF.out.2]; exact h3))
    have z1 : ((S : Int) == 40) = false := eqn_f (b := 40) (by omega)
    have z2 : ((S : Int) == 108) = false := eqn_f (b := 108) (by omega)
    clear h3
    go_wp2_with fail
    refine (bmust_no 4 _).mono ?_
    rintro e w1 ⟨hp, rfl⟩
    obtain rfl := hp
    go_wp2_with fail
    exact ⟨rfl, HC3.out, .inl (by rw [HE.out, HX3.out]; exact ⟨by decide, rfl⟩)⟩
  have h3' : S = 40 ∨ S = 108 := Classical.not_not.1 h3
  have HX3 : Hid (bmS d = 40 ∨ bmS d = 108) := Lib.hid (by unfold bmS; rw [← HOF.out.2]; exact h3')
  have hS108 : S ≤ 108 := by omega
  have zz : ((S : Int) == 40) = true ∨ ((S : Int) == 40) = false ∧ ((S : Int) == 108) = true := by
    rcases h3' with h | h
    · exact .inl (eqn_t (b := 40) h)
    · exact .inr ⟨eqn_f (b := 40) (by omega), eqn_t (b := 108) h⟩
  clear h3 h3'
  go_cut [] (fun wx => Hid (wx = w3))
  case first =>
    rcases zz with z1 | ⟨z1, z2⟩
    · go_wp2_with fail
      refine (bmust_yes 4 _).mono ?_
      rintro e w1 ⟨rfl, rfl⟩
      go_wp2_with fail
      go_meet
      exact Lib.hid rfl
    · go_wp2_with fail
      refine (bmust_yes 4 _).mono ?_
      rintro e w1 ⟨rfl, rfl⟩
      go_wp2_with fail
      go_meet
      exact Lib.hid rfl
  case rest =>
  have hwc := hcut.out
  subst hwc
  have c20 : wc.cell? ⟨g, 20, none⟩ = some (.int .i64 (0 : Nat)) := HS3.out.cell rfl
  go_upto_region 5 with fail
  have e20 : (14 : Int) + (S : Int) = ((14 + S : Nat) : Int) := by omega
  rw [e20]
  have HS4 : Hid (HdS g m A d (rdC A m cap off S 0 0 false 0 0 0 noB (.slice none 0 0) (.int .i64 0) (.int .i64 0) (.slice none 0 0) 0 0 0 (14 + S)) _) := Lib.hid (HS3.out.set HK.out 20 (.int .i64 ((14 + S : Nat) : Int)))
  have HC4 := Lib.hid (HC3.out.set (g := g) (.inl (by simp)) 20 (.int .i64 ((14 + S : Nat) : Int)))
  clear HS3 HC3 c0 c2 f3 c20 e20 hcut
  generalize wc.setCell ⟨g, 20, none⟩ (.int .i64 ((14 + S : Nat) : Int)) = w4 at *
  have c0 : w4.cell? ⟨g, 0, none⟩ = some (.slice A m cap) := HS4.out.cell rfl
  have c20 : w4.cell? ⟨g, 20, none⟩ = some (.int .i64 ((14 + S : Nat) : Int)) := HS4.out.cell rfl
  obtain ⟨e1, he1⟩ : ∃ e1, e1 = 14 + S := ⟨_, rfl⟩
  rw [← he1] at c20
  by_cases h4 : m < 14 + S
  · have HX4 : Hid (headE d m = 2) := Lib.hid (headE_4 h1 HX2.out HX3.out (by unfold bmS; rw [← HOF.out.2]; exact h4))
    have t1 : decide (e1 ≤ m) = false := by simp; omega
    clear h4 he1 zz
    go_still_tail 10, (by kernel_rfl)
    repeat still_step
    try refine wpStill_nil ?_
    change wpList _ _ _ _ _ w4.drew
    go_wp2_with fail
    refine (bmust_no 2 _).mono ?_
    rintro e w1 ⟨hp, rfl⟩
    obtain rfl := hp
    go_wp2_with fail
    exact ⟨rfl, HC4.out.drew, .inl (by rw [HE.out, HX4.out]; exact ⟨by decide, rfl⟩)⟩
  have t1 : decide (e1 ≤ m) = true := by simp; omega
  have HX4 : Hid (¬m < 14 + bmS d) := Lib.hid (by unfold bmS; rw [← HOF.out.2]; exact h4)
  clear h4 he1 zz
  go_still_tail 10, (by kernel_rfl)
  repeat still_step
  try refine wpStill_nil ?_
  change wpList _ _ _ _ _ w4.drew
  go_wp2_with fail
  refine (bmust_yes 2 _).mono ?_
  rintro e w1 ⟨rfl, rfl⟩
  have HS5 := Lib.hid HS4.out.drew
  have HC5 := Lib.hid HC4.out.drew
  clear HS4 HC4 c0 c20 t1
  generalize w4.drew = w5 at *
  go_wp2_with fail
  refine (signed_h HK.out HS5.out rfl 18 (by omega)).mono ?_
  rintro e w6 ⟨rfl, hC6, hS6⟩
  have HC6 := Lib.hid (HC5.out.trans hC6)
  have HS6 := Lib.hid hS6
  clear hC6 hS6 HS5 HC5
  go_wp2_with fail
  refine (signed_h HK.out HS6.out rfl 22 (by omega)).mono ?_
  rintro e w7 ⟨rfl, hC7, hS7⟩
  have HC7 := Lib.hid (HC6.out.trans hC7)
  have HS7 := Lib.hid hS7
  clear hC7 hS7 HS6 HC6
  go_wp2_with fail
  refine (two_h HK.out HS7.out rfl 28 (by omega)).mono ?_
  rintro e w8 ⟨rfl, hC8, hS8⟩
  have HC8 := Lib.hid (HC7.out.trans hC8)
  have HS8 := Lib.hid hS8
  clear hC8 hS8 HS7 HC7
  go_wp2_with fail
  refine (four_h HK.out HS8.out rfl 30 (by omega)).mono ?_
  rintro e w9 ⟨rfl, hC9, hS9⟩
  have HC9 := Lib.hid (HC8.out.trans hC9)
  have HS9 := Lib.hid hS9
  clear hC9 hS9 HS8 HC8
  go_wp2_with fail
  refine (four_h HK.out HS9.out rfl 46 (by omega)).mono ?_
  rintro e wa ⟨rfl, hCa, hSa⟩
  obtain ⟨W, hW⟩ : ∃ W, W = sgnV (lowD d 18 4) := ⟨_, rfl⟩
  obtain ⟨H, hH⟩ : ∃ H, H = sgnV (lowD d 22 4) := ⟨_, rfl⟩
  obtain ⟨bits, hbits⟩ : ∃ bits, bits = lowD d 28 2 := ⟨_, rfl⟩
  obtain ⟨kind, hkind⟩ : ∃ kind, kind = lowD d 30 4 := ⟨_, rfl⟩
  obtain ⟨used, hused⟩ : ∃ used, used = lowD d 46 4 := ⟨_, rfl⟩
  have hWb := sgnV_bd HK.out.hd 18
  have hHb := sgnV_bd HK.out.hd 22
  rw [← hW] at hWb
  rw [← hH] at hHb
  rw [← hW, ← hH, ← hbits, ← hkind, ← hused]
  have HWH := Lib.hid (And.intro hW (And.intro hH (And.intro hbits (And.intro hkind hused))))
  have HCa := Lib.hid (HC9.out.trans hCa)
  have hs3 := hSa.set HK.out 3 (.int .i64 W)
  have hs4 := hs3.set HK.out 4 (.int .i64 H)
  have hs6 := hs4.set HK.out 6 (.int .i64 (bits : Nat))
  have hs7 := hs6.set HK.out 7 (.int .i64 (kind : Nat))
  have k3 : wa.cell? ⟨g, 3, none⟩ = some (.int .i64 0) := hSa.cell rfl
  have k4 : (wa.setCell ⟨g, 3, none⟩ (.int .i64 W)).cell? ⟨g, 4, none⟩ = some (.int .i64 0) := hs3.cell rfl
  have k6 : ((wa.setCell ⟨g, 3, none⟩ (.int .i64 W)).setCell ⟨g, 4, none⟩ (.int .i64 H)).cell? ⟨g, 6, none⟩ = some (.int .i64 (0 : Nat)) := hs4.cell rfl
  have k7 : (((wa.setCell ⟨g, 3, none⟩ (.int .i64 W)).setCell ⟨g, 4, none⟩ (.int .i64 H)).setCell ⟨g, 6, none⟩ (.int .i64 (bits : Nat))).cell? ⟨g, 7, none⟩ = some (.int .i64 (0 : Nat)) := hs6.cell rfl
  have k8 : ((((wa.setCell ⟨g, 3, none⟩ (.int .i64 W)).setCell ⟨g, 4, none⟩ (.int .i64 H)).setCell ⟨g, 6, none⟩ (.int .i64 (bits : Nat))).setCell ⟨g, 7, none⟩ (.int .i64 (kind : Nat))).cell? ⟨g, 8, none⟩ = some (.int .i64 (0 : Nat)) := hs7.cell rfl
  have z3 := hp_froz hSa.hR
  have z4 := hp_froz hs3.hR
  have z6 := hp_froz hs4.hR
  have z7 := hp_froz hs6.hR
  have z8 := hp_froz hs7.hR
  have HSb : Hid (HdS g m A d (rdC A m cap off S W H false bits kind used noB (.slice none 0 0) (.int .i64 0) (.int .i64 0) (.slice none 0 0) 0 0 0 (14 + S)) _) := Lib.hid (hs7.set HK.out 8 (.int .i64 (used : Nat)))
  have HCb := Lib.hid (((((HCa.out.set (g := g) (.inl (by simp)) 3 (.int .i64 W)).set (g := g) (.inl (by simp)) 4 (.int .i64 H)).set (g := g) (.inl (by simp)) 6 (.int .i64 (bits : Nat))).set (g := g) (.inl (by simp)) 7 (.int .i64 (kind : Nat))).set (g := g) (.inl (by simp)) 8 (.int .i64 (used : Nat)))
  clear hs3 hs4 hs6 hs7 hCa hSa HCa HC9 HS9 hW hH hbits hkind hused
  go_upto_region 7 with fail
  clear k3 k4 k6 k7 k8 z3 z4 z6 z7 z8
  generalize ((((wa.setCell ⟨g, 3, none⟩ (.int .i64 W)).setCell ⟨g, 4, none⟩ (.int .i64 H)).setCell ⟨g, 6, none⟩ (.int .i64 (bits : Nat))).setCell ⟨g, 7, none⟩ (.int .i64 (kind : Nat))).setCell ⟨g, 8, none⟩ (.int .i64 (used : Nat)) = wb at *
  have k4 : wb.cell? ⟨g, 4, none⟩ = some (.int .i64 H) := HSb.out.cell rfl
  have k5 : wb.cell? ⟨g, 5, none⟩ = some (.bool false) := HSb.out.cell rfl
  have z5 := hp_froz HSb.out.hR
  go_upto_region 8 with fail
  have HSd : Hid (HdS g m A d (rdC A m cap off S W H (decide (H < 0)) bits kind used noB (.slice none 0 0) (.int .i64 0) (.int .i64 0) (.slice none 0 0) 0 0 0 (14 + S)) _) := Lib.hid (HSb.out.set HK.out 5 (.bool (decide (H < 0))))
  have HCd := Lib.hid (HCb.out.set (g := g) (.inl (by simp)) 5 (.bool (decide (H < 0))))
  clear k4 k5 z5 HSb HCb
  generalize wb.setCell ⟨g, 5, none⟩ (.bool (decide (H < 0))) = wd at *
  obtain ⟨T, hT⟩ : ∃ T, T = lowD d 26 2 := ⟨_, rfl⟩
  have HT := Lib.hid hT
  have HX5 : Hid (¬(T = 1 ∧ 0 < W ∧ H ≠ 0 ∧ bmFine bits kind H = true) → headE d m = 4) := Lib.hid (fun hn => by
    obtain ⟨a1, a2, a3, a4, a5⟩ := HWH.out
    refine headE_5 h1 HX2.out HX3.out HX4.out ?_
    unfold bmW bmH bmBits bmK
    rw [← HT.out, ← a1, ← a2, ← a3, ← a4]
    exact hn)
  clear hT
  by_cases p1 : T = 1
  case neg =>
    replace HX5 := Lib.hid (HX5.out (fun hn => p1 hn.1))
    have z1 : ((T : Int) == 1) = false := eqn_f (b := 1) p1
    clear p1
    go_wp2_with fail
    refine (two_h HK.out HSd.out rfl 26 (by omega)).mono ?_
    rintro e we ⟨rfl, hCe, hSe⟩
    rw [← HT.out]
    have HCe := Lib.hid (HCd.out.trans hCe)
    have k3 : we.cell? ⟨g, 3, none⟩ = some (.int .i64 W) := hSe.cell rfl
    have k4 : we.cell? ⟨g, 4, none⟩ = some (.int .i64 H) := hSe.cell rfl
    have HSe := Lib.hid hSe
    clear hCe hSe HSd HCd
    go_wp2_with fail
    refine (bmust_no 4 _).mono ?_
    rintro e w1 ⟨hp, rfl⟩
    obtain rfl := hp
    go_wp2_with fail
    exact ⟨rfl, HCe.out, .inl (by rw [HE.out, HX5.out]; exact ⟨by decide, rfl⟩)⟩
  have z1 : ((T : Int) == 1) = true := eqn_t (b := 1) p1
  by_cases p2 : 0 < W
  case neg =>
    replace HX5 := Lib.hid (HX5.out (fun hn => p2 hn.2.1))
    have z2 : decide (0 < W) = false := decide_eq_false p2
    clear p1 p2
    go_wp2_with fail
    refine (two_h HK.out HSd.out rfl 26 (by omega)).mono ?_
    rintro e we ⟨rfl, hCe, hSe⟩
    rw [← HT.out]
    have HCe := Lib.hid (HCd.out.trans hCe)
    have k3 : we.cell? ⟨g, 3, none⟩ = some (.int .i64 W) := hSe.cell rfl
    have k4 : we.cell? ⟨g, 4, none⟩ = some (.int .i64 H) := hSe.cell rfl
    have HSe := Lib.hid hSe
    clear hCe hSe HSd HCd
    go_wp2_with fail
    refine (bmust_no 4 _).mono ?_
    rintro e w1 ⟨hp, rfl⟩
    obtain rfl := hp
    go_wp2_with fail
    exact ⟨rfl, HCe.out, .inl (by rw [HE.out, HX5.out]; exact ⟨by decide, rfl⟩)⟩
  have z2 : decide (0 < W) = true := decide_eq_true p2
  by_cases p3 : H = 0
  case pos =>
    replace HX5 := Lib.hid (HX5.out (fun hn => hn.2.2.1 p3))
    have z3 : (H == 0) = true := by rw [p3]; rfl
    have z4 : (H != 0) = false := by rw [p3]; rfl
    clear p1 p2 p3
    go_wp2_with fail
    refine (two_h HK.out HSd.out rfl 26 (by omega)).mono ?_
    rintro e we ⟨rfl, hCe, hSe⟩
    rw [← HT.out]
    have HCe := Lib.hid (HCd.out.trans hCe)
    have k3 : we.cell? ⟨g, 3, none⟩ = some (.int .i64 W) := hSe.cell rfl
    have k4 : we.cell? ⟨g, 4, none⟩ = some (.int .i64 H) := hSe.cell rfl
    have HSe := Lib.hid hSe
    clear hCe hSe HSd HCd
    go_wp2_with fail
    refine (bmust_no 4 _).mono ?_
    rintro e w1 ⟨hp, rfl⟩
    obtain rfl := hp
    go_wp2_with fail
    exact ⟨rfl, HCe.out, .inl (by rw [HE.out, HX5.out]; exact ⟨by decide, rfl⟩)⟩
  have z3 : (H == 0) = false := beq_eq_false_iff_ne.2 p3
  have z4 : (H != 0) = true := bne_iff_ne.2 p3
  cases z9 : bmFine bits kind H with
  | false =>
    replace HX5 := Lib.hid (HX5.out (fun hn => by rw [z9] at hn; cases hn.2.2.2))
    clear p1 p2 p3
    go_wp2_with fail
    refine (two_h HK.out HSd.out rfl 26 (by omega)).mono ?_
    rintro e we ⟨rfl, hCe, hSe⟩
    rw [← HT.out]
    have HCe := Lib.hid (HCd.out.trans hCe)
    have k3 : we.cell? ⟨g, 3, none⟩ = some (.int .i64 W) := hSe.cell rfl
    have k4 : we.cell? ⟨g, 4, none⟩ = some (.int .i64 H) := hSe.cell rfl
    have HSe := Lib.hid hSe
    clear hCe hSe HSd HCd
    go_wp2_with fail
    refine (may_b g bits kind H we (HSe.out.cell rfl) (HSe.out.cell rfl) (HSe.out.cell rfl)).mono ?_
    rintro e wf ⟨rfl, rfl⟩
    rw [z9]
    go_wp2_with fail
    refine (bmust_no 4 _).mono ?_
    rintro e w1 ⟨hp, rfl⟩
    obtain rfl := hp
    go_wp2_with fail
    exact ⟨rfl, HCe.out, .inl (by rw [HE.out, HX5.out]; exact ⟨by decide, rfl⟩)⟩
  | true =>
    have HF : Hid (HeadF d m) := Lib.hid (by
      obtain ⟨a1, a2, a3, a4, a5⟩ := HWH.out
      have := HX4.out
      refine ⟨by omega, HX2.out, HX3.out, by omega, ?_⟩
      unfold bmW bmH bmBits bmK
      rw [← HT.out, ← a1, ← a2, ← a3, ← a4]
      exact ⟨p1, p2, p3, z9⟩)
    clear HX5 p1
    go_wp2_with fail
    refine (two_h HK.out HSd.out rfl 26 (by omega)).mono ?_
    rintro e we ⟨rfl, hCe, hSe⟩
    rw [← HT.out]
    have HCe := Lib.hid (HCd.out.trans hCe)
    have k3 : we.cell? ⟨g, 3, none⟩ = some (.int .i64 W) := hSe.cell rfl
    have k4 : we.cell? ⟨g, 4, none⟩ = some (.int .i64 H) := hSe.cell rfl
    have HSe := Lib.hid hSe
    clear hCe hSe HSd HCd
    go_wp2_with fail
    refine (may_b g bits kind H we (HSe.out.cell rfl) (HSe.out.cell rfl) (HSe.out.cell rfl)).mono ?_
    rintro e wf ⟨rfl, rfl⟩
    rw [z9]
    go_wp2_with fail
    refine (bmust_yes 4 _).mono ?_
    rintro e w1 ⟨rfl, rfl⟩
    clear z1 z2 z3 z4 z9 k3 k4
    have k5 : wf.cell? ⟨g, 5, none⟩ = some (.bool (decide (H < 0))) := HSe.out.cell rfl
    have k4 : wf.cell? ⟨g, 4, none⟩ = some (.int .i64 H) := HSe.out.cell rfl
    have fz := hp_froz HSe.out.hR
    go_upto_if 128 with fail
    go_cut [] (fun wx => Hid (HdS g m A d (rdC A m cap off S W ((H.natAbs : Nat) : Int) (decide (H < 0)) bits kind used noB (.slice none 0 0) (.int .i64 0) (.int .i64 0) (.slice none 0 0) 0 0 0 (14 + S)) wx ∧ Chg [g] w wx))
    case first =>
      by_cases hn : H < 0
      · have tn : decide (H < 0) = true := decide_eq_true hn
        have en : IntKind.i64.wrap (-H) = ((H.natAbs : Nat) : Int) := by rw [IntWalk.i64_in _ (by omega)]; omega
        have en2 : -H = ((H.natAbs : Nat) : Int) := by omega
        have HG : Hid (HdS g m A d (rdC A m cap off S W ((H.natAbs : Nat) : Int) (decide (H < 0)) bits kind used noB (.slice none 0 0) (.int .i64 0) (.int .i64 0) (.slice none 0 0) 0 0 0 (14 + S)) (wf.setCell ⟨g, 4, none⟩ (.int .i64 (-H))) ∧ Chg [g] w (wf.setCell ⟨g, 4, none⟩ (.int .i64 (-H)))) := Lib.hid ⟨by rw [en2]; exact HSe.out.set HK.out 4 (.int .i64 ((H.natAbs : Nat) : Int)), HCe.out.set (g := g) (.inl (by simp)) 4 _⟩
        rw [en2] at HG
        clear en2
        go_wp2_with fail
        go_meet
        exact HG
      · have tn : decide (H < 0) = false := decide_eq_false hn
        have en : H = ((H.natAbs : Nat) : Int) := by omega
        have HG : Hid (HdS g m A d (rdC A m cap off S W ((H.natAbs : Nat) : Int) (decide (H < 0)) bits kind used noB (.slice none 0 0) (.int .i64 0) (.int .i64 0) (.slice none 0 0) 0 0 0 (14 + S)) wf ∧ Chg [g] w wf) := Lib.hid ⟨by rw [← en]; exact HSe.out, HCe.out⟩
        clear en
        go_wp2_with fail
        go_meet
        exact HG
    case rest =>
    obtain ⟨hSc, hCc⟩ := hcut.out
    obtain ⟨Hn, hHn⟩ : ∃ Hn : Nat, Hn = H.natAbs := ⟨_, rfl⟩
    have hHn3 : Hn ≤ 2147483648 := by omega
    rw [← hHn] at hSc
    obtain ⟨w2, hw2⟩ : ∃ w2, w2 = wc := ⟨_, rfl⟩
    rw [← hw2] at hSc hCc ⊢
    have c3 : w2.cell? ⟨g, 3, none⟩ = some (.int .i64 W) := hSc.cell rfl
    have c4 : w2.cell? ⟨g, 4, none⟩ = some (.int .i64 (Hn : Nat)) := hSc.cell rfl
    have HSc := Lib.hid hSc
    have HCc := Lib.hid hCc
    have HHN := Lib.hid hHn
    clear hSc hCc hHn hcut k4 k5 fz HCe HSe hw2
    go_upto_region 11 with fail
    go_cut [2, 3] (fun s2 s3 wx => HdpR w2 W (Hn : Nat) s2 s3 wx)
    case first =>
      by_cases hz : sizeE W (Hn : Nat) = 0
      · obtain ⟨s1, s2, s3, s4, s5⟩ := size_ok hz
        obtain ⟨N4, h4N, hN4, hn40⟩ := size_n4 hz
        have HZ := Lib.hid hz
        clear s1 s2 s3 s4 s5 hz
        refine wp_region_held_drew (S := fun w' => Below w2.heap.size w2 w') (by kernel_rfl) ((Below.refl _ _).drew) (fun hHeld => ?_)
        have hb_wd : Below w2.heap.size w2 w2.drew := (Below.refl _ _).drew
        generalize w2.drew = wd at *
        refine wpAnyH_take (i := 0) (oi := ⟨some 138, _, _, _, _, _⟩) (v := ?v0n0) rfl (by kernel_rfl) (by kernel_rfl) (by kernel_rfl) (fun _ _ _ h => h) (Or.inl ⟨by rfl, ?y0n0⟩) hHeld ?r0n0
        case y0n0 => ((intro w hSw); have hq3 := cell_bel hSw c3; have hq4 := cell_bel hSw c4; clear hSw; go_simp; try with_reducible rfl)
        try simp only [Act.put, List.setIfInBounds_toArray, List.set_cons_zero, List.set_cons_succ]
        refine wpAnyH_take (i := 1) (oi := ⟨some 139, _, _, _, _, _⟩) (v := ?v1n1) rfl (by kernel_rfl) (by kernel_rfl) (by kernel_rfl) (fun _ _ _ h => h) (Or.inl ⟨by rfl, ?y1n1⟩) hHeld ?r1n1
        case y1n1 => ((intro w hSw); have hq3 := cell_bel hSw c3; have hq4 := cell_bel hSw c4; clear hSw; go_simp; try with_reducible rfl)
        try simp only [Act.put, List.setIfInBounds_toArray, List.set_cons_zero, List.set_cons_succ]
        refine wpAnyH_take (i := 2) (oi := ⟨some 140, _, _, _, _, _⟩) (v := ?v2n2) rfl (by kernel_rfl) (by kernel_rfl) (by kernel_rfl) (fun _ _ _ h => h) (Or.inl ⟨by rfl, ?y2n2⟩) hHeld ?r2n2
        case y2n2 => ((intro w hSw); have hq3 := cell_bel hSw c3; have hq4 := cell_bel hSw c4; clear hSw; go_simp; try with_reducible rfl)
        try simp only [Act.put, List.setIfInBounds_toArray, List.set_cons_zero, List.set_cons_succ]
        refine wpAnyH_take (i := 3) (oi := ⟨some 141, _, _, _, _, _⟩) (v := ?v3n3) rfl (by kernel_rfl) (by kernel_rfl) (by kernel_rfl) (fun _ _ _ h => h) (Or.inl ⟨by rfl, ?y3n3⟩) hHeld ?r3n3
        case y3n3 => ((intro w hSw); have hq3 := cell_bel hSw c3; have hq4 := cell_bel hSw c4; clear hSw; go_simp; try with_reducible rfl)
        try simp only [Act.put, List.setIfInBounds_toArray, List.set_cons_zero, List.set_cons_succ]
        refine wpAnyH_take (i := 4) (oi := ⟨some 142, _, _, _, _, _⟩) (v := ?v4n4) rfl (by kernel_rfl) (by kernel_rfl) (by kernel_rfl) (fun _ _ _ h => h) (Or.inl ⟨by rfl, ?y4n4⟩) hHeld ?r4n4
        case y4n4 => ((intro w hSw); have hq3 := cell_bel hSw c3; have hq4 := cell_bel hSw c4; clear hSw; go_simp; try with_reducible rfl)
        try simp only [Act.put, List.setIfInBounds_toArray, List.set_cons_zero, List.set_cons_succ]
        refine wpAnyH_take (i := 5) (oi := ⟨some 143, _, _, _, _, _⟩) (v := ?v5n5) rfl (by kernel_rfl) (by kernel_rfl) (by kernel_rfl) (fun _ _ _ h => h) (Or.inl ⟨by rfl, ?y5n5⟩) hHeld ?r5n5
        case y5n5 => ((intro w hSw); have hq3 := cell_bel hSw c3; have hq4 := cell_bel hSw c4; clear hSw; go_simp; try with_reducible rfl)
        try simp only [Act.put, List.setIfInBounds_toArray, List.set_cons_zero, List.set_cons_succ]
        refine wpAnyH_take (i := 6) (oi := ⟨some 144, _, _, _, _, _⟩) (v := ?v6n6) rfl (by kernel_rfl) (by kernel_rfl) (by kernel_rfl) (fun _ _ _ h => h) (Or.inl ⟨by rfl, ?y6n6⟩) hHeld ?r6n6
        case y6n6 => ((intro w hSw); have hq3 := cell_bel hSw c3; have hq4 := cell_bel hSw c4; clear hSw; go_simp; try with_reducible rfl)
        try simp only [Act.put, List.setIfInBounds_toArray, List.set_cons_zero, List.set_cons_succ]
        refine wpAnyH_take (i := 7) (oi := ⟨some 145, _, _, _, _, _⟩) (v := ?v7n7) rfl (by kernel_rfl) (by kernel_rfl) (by kernel_rfl) (fun _ _ _ h => h) (Or.inl ⟨by rfl, ?y7n7⟩) hHeld ?r7n7
        case y7n7 => ((intro w hSw); have hq3 := cell_bel hSw c3; have hq4 := cell_bel hSw c4; clear hSw; go_simp; try with_reducible rfl)
        try simp only [Act.put, List.setIfInBounds_toArray, List.set_cons_zero, List.set_cons_succ]
        refine wpAnyH_ready (rs := [8, 12]) (by kernel_rfl) (by simp) (AllReadyH.cons (o := ⟨some 146, _, _, _, _, _⟩) rfl (fun K hK => ?_) (AllReadyH.cons (o := ⟨some 2, _, _, _, _, _⟩) rfl (fun K hK => ?_) AllReadyH.nil))
        · go_simp
          refine (new_prog W (Hn : Nat) (by unfold In64; omega) (by unfold In64; omega) wd).mono ?_
          rintro e v8 ⟨hB, ⟨_, v, rfl, hown⟩ | ⟨h, _⟩⟩
          rotate_left
          · exact absurd HZ.out h
          rw [h4N, zeros_16] at hown
          obtain ⟨A9, cap9, rfl, hn9, hc9, _, hO9⟩ := NewRow.of_row hown
          obtain ⟨ga, cur9, rfl, hgB, _⟩ := hO9 hn40
          have hgl := (hO9.lt ga hn40 rfl).2
          have HO9 := Lib.hid (hO9.le (Nat.zero_le _))
          have hgw : w2.heap.size ≤ ga := by have := hb_wd.size; omega
          have hb_v8 := hb_wd.trans (hB.mono hb_wd.size)
          clear hB hb_wd hown hO9
          go_wp2_with fail
          refine hK.out _ _ hb_v8 (fun hHeld => ?_)
          clear hK K
          try simp only [Act.put, List.setIfInBounds_toArray, List.set_cons_zero, List.set_cons_succ]
          refine wpAnyH_take (i := 9) (oi := ⟨some 137, _, _, _, _, _⟩) (v := ?v9n9) rfl (by kernel_rfl) (by kernel_rfl) (by kernel_rfl) (fun _ _ _ h => h) (Or.inl ⟨by rfl, ?y9n9⟩) hHeld ?r9n9
          case y9n9 => ((intro w hSw); (try dsimp only at hSw); go_simp; try with_reducible rfl)
          try simp only [Act.put, List.setIfInBounds_toArray, List.set_cons_zero, List.set_cons_succ]
          refine wpAnyH_take (i := 10) (oi := ⟨some 147, _, _, _, _, _⟩) (v := ?v10n10) rfl (by kernel_rfl) (by kernel_rfl) (by kernel_rfl) (fun _ _ _ h => h) (Or.inl ⟨by rfl, ?y10n10⟩) hHeld ?r10n10
          case y10n10 => ((intro w hSw); (try dsimp only at hSw); go_simp; try with_reducible rfl)
          try simp only [Act.put, List.setIfInBounds_toArray, List.set_cons_zero, List.set_cons_succ]
          refine wpAnyH_take (i := 11) (oi := ⟨some 148, _, _, _, _, _⟩) (v := ?v11n11) rfl (by kernel_rfl) (by kernel_rfl) (by kernel_rfl) (fun _ _ _ h => h) (Or.inl ⟨by rfl, ?y11n11⟩) hHeld ?r11n11
          case y11n11 => ((intro w hSw); (try dsimp only at hSw); go_simp; try with_reducible rfl)
          try simp only [Act.put, List.setIfInBounds_toArray, List.set_cons_zero, List.set_cons_succ]
          refine wpAnyH_ready (rs := [12]) (by kernel_rfl) (by simp) (AllReadyH.cons (o := ⟨some 2, _, _, _, _, _⟩) rfl (fun K hK => ?_) AllReadyH.nil)
          go_simp
          refine hK.out _ _ (hb_v8.alloc hb_v8.size _) (fun hHeld => ?_)
          clear hK K
          try simp only [Act.put, List.setIfInBounds_toArray, List.set_cons_zero, List.set_cons_succ]
          have hb_v12 : Below w2.heap.size w2 (v8.alloc (.cells #[.int .i64 0, .int .i64 0, .slice none 0 0] 24)) := hb_v8.alloc hb_v8.size _
          have hx_v12 := hp_new0 v8 (.cells #[.int .i64 0, .int .i64 0, .slice none 0 0] 24)
          have hrl : w2.heap.size ≤ v8.heap.size := hb_v8.size
          replace HO9 := Lib.hid (HO9.out.below ((Below.refl _ v8).alloc (Nat.le_refl _) (.cells #[.int .i64 0, .int .i64 0, .slice none 0 0] 24)))
          generalize v8.alloc (.cells #[.int .i64 0, .int .i64 0, .slice none 0 0] 24) = v12 at *
          obtain ⟨rb, hrb⟩ : ∃ rb, rb = v8.heap.size := ⟨_, rfl⟩
          rw [← hrb] at hx_v12 hrl ⊢
          have hne : rb ≠ ga := by omega
          clear hrb hb_v8
          have q0 := hp_cell (j := 0) hx_v12 rfl
          have q1 := hp_cell (j := 1) hx_v12 rfl
          have q2 := hp_cell (j := 2) hx_v12 rfl
          have qf := hp_froz hx_v12
          refine wpAnyH_ready (rs := [13]) (by kernel_rfl) (by simp) (AllReadyH.cons (o := ⟨none, _, _, _, _, _⟩) rfl (fun K hK => ?_) AllReadyH.nil)
          go_simp
          refine hK.out _ _ (((hb_v12.setCell (p := ⟨rb, 0, none⟩) hrl _).setCell (p := ⟨rb, 1, none⟩) hrl _).setCell (p := ⟨rb, 2, none⟩) hrl _) (fun hHeld => ?_)
          clear hK K
          try simp only [Act.put, List.setIfInBounds_toArray, List.set_cons_zero, List.set_cons_succ]
          refine wpAnyH_ready (rs := [14]) (by kernel_rfl) (by simp) (AllReadyH.cons (o := ⟨some 3, _, _, _, _, _⟩) rfl (fun K hK => ?_) AllReadyH.nil)
          go_simp
          refine hK.out _ _ (((hb_v12.setCell (p := ⟨rb, 0, none⟩) hrl _).setCell (p := ⟨rb, 1, none⟩) hrl _).setCell (p := ⟨rb, 2, none⟩) hrl _) (fun hHeld => ?_)
          clear hK K
          try simp only [Act.put, List.setIfInBounds_toArray, List.set_cons_zero, List.set_cons_succ]
          refine wpAnyH_done (by kernel_rfl) ?_ _
          clear q0 q1 q2 qf
          go_wp2_with fail
          go_meet
          exact hdp_good hN4 hb_v12 hx_v12 HO9.out hrl hgw hne hn9 hc9 HZ.out
        · go_simp
          refine hK.out _ _ (hb_wd.alloc hb_wd.size _) (fun hHeld => ?_)
          clear hK K
          try simp only [Act.put, List.setIfInBounds_toArray, List.set_cons_zero, List.set_cons_succ]
          have hb_v13 : Below w2.heap.size w2 (wd.alloc (.cells #[.int .i64 0, .int .i64 0, .slice none 0 0] 24)) := hb_wd.alloc hb_wd.size _
          have hx_v13 := hp_new0 wd (.cells #[.int .i64 0, .int .i64 0, .slice none 0 0] 24)
          have hrl : w2.heap.size ≤ wd.heap.size := hb_wd.size
          generalize wd.alloc (.cells #[.int .i64 0, .int .i64 0, .slice none 0 0] 24) = v13 at *
          obtain ⟨rb, hrb⟩ : ∃ rb, rb = wd.heap.size := ⟨_, rfl⟩
          rw [← hrb] at hx_v13 hrl ⊢
          clear hrb hb_wd
          refine wpAnyH_ready (rs := [8]) (by kernel_rfl) (by simp) (AllReadyH.cons (o := ⟨some 146, _, _, _, _, _⟩) rfl (fun K hK => ?_) AllReadyH.nil)
          go_simp
          refine (new_prog W (Hn : Nat) (by unfold In64; omega) (by unfold In64; omega) v13).mono ?_
          rintro e v14 ⟨hB, ⟨_, v, rfl, hown⟩ | ⟨h, _⟩⟩
          rotate_left
          · exact absurd HZ.out h
          rw [h4N, zeros_16] at hown
          obtain ⟨A9, cap9, rfl, hn9, hc9, _, hO9⟩ := NewRow.of_row hown
          obtain ⟨ga, cur9, rfl, hgB, _⟩ := hO9 hn40
          have hgl := (hO9.lt ga hn40 rfl).2
          have HO9 := Lib.hid (hO9.le (Nat.zero_le _))
          have hgw : w2.heap.size ≤ ga := by have := hb_v13.size; omega
          have hb_v14 := hb_v13.trans (hB.mono hb_v13.size)
          have hx_v14 := hp_below hx_v13 hB (lt_heap hx_v13)
          have hne : rb ≠ ga := by have := lt_heap hx_v13; omega
          clear hB hb_v13 hx_v13 hown hO9
          go_wp2_with fail
          refine hK.out _ _ hb_v14 (fun hHeld => ?_)
          clear hK K
          try simp only [Act.put, List.setIfInBounds_toArray, List.set_cons_zero, List.set_cons_succ]
          refine wpAnyH_take (i := 9) (oi := ⟨some 137, _, _, _, _, _⟩) (v := ?v9n15) rfl (by kernel_rfl) (by kernel_rfl) (by kernel_rfl) (fun _ _ _ h => h) (Or.inl ⟨by rfl, ?y9n15⟩) hHeld ?r9n15
          case y9n15 => ((intro w hSw); (try dsimp only at hSw); go_simp; try with_reducible rfl)
          try simp only [Act.put, List.setIfInBounds_toArray, List.set_cons_zero, List.set_cons_succ]
          refine wpAnyH_take (i := 10) (oi := ⟨some 147, _, _, _, _, _⟩) (v := ?v10n16) rfl (by kernel_rfl) (by kernel_rfl) (by kernel_rfl) (fun _ _ _ h => h) (Or.inl ⟨by rfl, ?y10n16⟩) hHeld ?r10n16
          case y10n16 => ((intro w hSw); (try dsimp only at hSw); go_simp; try with_reducible rfl)
          try simp only [Act.put, List.setIfInBounds_toArray, List.set_cons_zero, List.set_cons_succ]
          refine wpAnyH_take (i := 11) (oi := ⟨some 148, _, _, _, _, _⟩) (v := ?v11n17) rfl (by kernel_rfl) (by kernel_rfl) (by kernel_rfl) (fun _ _ _ h => h) (Or.inl ⟨by rfl, ?y11n17⟩) hHeld ?r11n17
          case y11n17 => ((intro w hSw); (try dsimp only at hSw); go_simp; try with_reducible rfl)
          try simp only [Act.put, List.setIfInBounds_toArray, List.set_cons_zero, List.set_cons_succ]
          have q0 := hp_cell (j := 0) hx_v14 rfl
          have q1 := hp_cell (j := 1) hx_v14 rfl
          have q2 := hp_cell (j := 2) hx_v14 rfl
          have qf := hp_froz hx_v14
          refine wpAnyH_ready (rs := [13]) (by kernel_rfl) (by simp) (AllReadyH.cons (o := ⟨none, _, _, _, _, _⟩) rfl (fun K hK => ?_) AllReadyH.nil)
          go_simp
          refine hK.out _ _ (((hb_v14.setCell (p := ⟨rb, 0, none⟩) hrl _).setCell (p := ⟨rb, 1, none⟩) hrl _).setCell (p := ⟨rb, 2, none⟩) hrl _) (fun hHeld => ?_)
          clear hK K
          try simp only [Act.put, List.setIfInBounds_toArray, List.set_cons_zero, List.set_cons_succ]
          refine wpAnyH_ready (rs := [14]) (by kernel_rfl) (by simp) (AllReadyH.cons (o := ⟨some 3, _, _, _, _, _⟩) rfl (fun K hK => ?_) AllReadyH.nil)
          go_simp
          refine hK.out _ _ (((hb_v14.setCell (p := ⟨rb, 0, none⟩) hrl _).setCell (p := ⟨rb, 1, none⟩) hrl _).setCell (p := ⟨rb, 2, none⟩) hrl _) (fun hHeld => ?_)
          clear hK K
          try simp only [Act.put, List.setIfInBounds_toArray, List.set_cons_zero, List.set_cons_succ]
          refine wpAnyH_done (by kernel_rfl) ?_ _
          clear q0 q1 q2 qf
          go_wp2_with fail
          go_meet
          exact hdp_good hN4 hb_v14 hx_v14 HO9.out hrl hgw hne hn9 hc9 HZ.out
      · have HZ := Lib.hid hz
        clear hz
        refine wp_region_held_drew (S := fun w' => Below w2.heap.size w2 w') (by kernel_rfl) ((Below.refl _ _).drew) (fun hHeld => ?_)
        have hb_wd : Below w2.heap.size w2 w2.drew := (Below.refl _ _).drew
        generalize w2.drew = wd at *
        refine wpAnyH_take (i := 0) (oi := ⟨some 138, _, _, _, _, _⟩) (v := ?v0n18) rfl (by kernel_rfl) (by kernel_rfl) (by kernel_rfl) (fun _ _ _ h => h) (Or.inl ⟨by rfl, ?y0n18⟩) hHeld ?r0n18
        case y0n18 => ((intro w hSw); have hq3 := cell_bel hSw c3; have hq4 := cell_bel hSw c4; clear hSw; go_simp; try with_reducible rfl)
        try simp only [Act.put, List.setIfInBounds_toArray, List.set_cons_zero, List.set_cons_succ]
        refine wpAnyH_take (i := 1) (oi := ⟨some 139, _, _, _, _, _⟩) (v := ?v1n19) rfl (by kernel_rfl) (by kernel_rfl) (by kernel_rfl) (fun _ _ _ h => h) (Or.inl ⟨by rfl, ?y1n19⟩) hHeld ?r1n19
        case y1n19 => ((intro w hSw); have hq3 := cell_bel hSw c3; have hq4 := cell_bel hSw c4; clear hSw; go_simp; try with_reducible rfl)
        try simp only [Act.put, List.setIfInBounds_toArray, List.set_cons_zero, List.set_cons_succ]
        refine wpAnyH_take (i := 2) (oi := ⟨some 140, _, _, _, _, _⟩) (v := ?v2n20) rfl (by kernel_rfl) (by kernel_rfl) (by kernel_rfl) (fun _ _ _ h => h) (Or.inl ⟨by rfl, ?y2n20⟩) hHeld ?r2n20
        case y2n20 => ((intro w hSw); have hq3 := cell_bel hSw c3; have hq4 := cell_bel hSw c4; clear hSw; go_simp; try with_reducible rfl)
        try simp only [Act.put, List.setIfInBounds_toArray, List.set_cons_zero, List.set_cons_succ]
        refine wpAnyH_take (i := 3) (oi := ⟨some 141, _, _, _, _, _⟩) (v := ?v3n21) rfl (by kernel_rfl) (by kernel_rfl) (by kernel_rfl) (fun _ _ _ h => h) (Or.inl ⟨by rfl, ?y3n21⟩) hHeld ?r3n21
        case y3n21 => ((intro w hSw); have hq3 := cell_bel hSw c3; have hq4 := cell_bel hSw c4; clear hSw; go_simp; try with_reducible rfl)
        try simp only [Act.put, List.setIfInBounds_toArray, List.set_cons_zero, List.set_cons_succ]
        refine wpAnyH_take (i := 4) (oi := ⟨some 142, _, _, _, _, _⟩) (v := ?v4n22) rfl (by kernel_rfl) (by kernel_rfl) (by kernel_rfl) (fun _ _ _ h => h) (Or.inl ⟨by rfl, ?y4n22⟩) hHeld ?r4n22
        case y4n22 => ((intro w hSw); have hq3 := cell_bel hSw c3; have hq4 := cell_bel hSw c4; clear hSw; go_simp; try with_reducible rfl)
        try simp only [Act.put, List.setIfInBounds_toArray, List.set_cons_zero, List.set_cons_succ]
        refine wpAnyH_take (i := 5) (oi := ⟨some 143, _, _, _, _, _⟩) (v := ?v5n23) rfl (by kernel_rfl) (by kernel_rfl) (by kernel_rfl) (fun _ _ _ h => h) (Or.inl ⟨by rfl, ?y5n23⟩) hHeld ?r5n23
        case y5n23 => ((intro w hSw); have hq3 := cell_bel hSw c3; have hq4 := cell_bel hSw c4; clear hSw; go_simp; try with_reducible rfl)
        try simp only [Act.put, List.setIfInBounds_toArray, List.set_cons_zero, List.set_cons_succ]
        refine wpAnyH_take (i := 6) (oi := ⟨some 144, _, _, _, _, _⟩) (v := ?v6n24) rfl (by kernel_rfl) (by kernel_rfl) (by kernel_rfl) (fun _ _ _ h => h) (Or.inl ⟨by rfl, ?y6n24⟩) hHeld ?r6n24
        case y6n24 => ((intro w hSw); have hq3 := cell_bel hSw c3; have hq4 := cell_bel hSw c4; clear hSw; go_simp; try with_reducible rfl)
        try simp only [Act.put, List.setIfInBounds_toArray, List.set_cons_zero, List.set_cons_succ]
        refine wpAnyH_take (i := 7) (oi := ⟨some 145, _, _, _, _, _⟩) (v := ?v7n25) rfl (by kernel_rfl) (by kernel_rfl) (by kernel_rfl) (fun _ _ _ h => h) (Or.inl ⟨by rfl, ?y7n25⟩) hHeld ?r7n25
        case y7n25 => ((intro w hSw); have hq3 := cell_bel hSw c3; have hq4 := cell_bel hSw c4; clear hSw; go_simp; try with_reducible rfl)
        try simp only [Act.put, List.setIfInBounds_toArray, List.set_cons_zero, List.set_cons_succ]
        refine wpAnyH_ready (rs := [8, 12]) (by kernel_rfl) (by simp) (AllReadyH.cons (o := ⟨some 146, _, _, _, _, _⟩) rfl (fun K hK => ?_) (AllReadyH.cons (o := ⟨some 2, _, _, _, _, _⟩) rfl (fun K hK => ?_) AllReadyH.nil))
        · go_simp
          refine (new_prog W (Hn : Nat) (by unfold In64; omega) (by unfold In64; omega) wd).mono ?_
          rintro e v26 ⟨hB, ⟨h, _⟩ | ⟨_, rfl⟩⟩
          · exact absurd h HZ.out
          have hb_v26 := hb_wd.trans (hB.mono hb_wd.size)
          clear hB hb_wd
          go_wp2_with fail
          refine hK.out _ _ hb_v26 (fun hHeld => ?_)
          clear hK K
          try simp only [Act.put, List.setIfInBounds_toArray, List.set_cons_zero, List.set_cons_succ]
          refine wpAnyH_take (i := 9) (oi := ⟨some 137, _, _, _, _, _⟩) (v := ?v9n27) rfl (by kernel_rfl) (by kernel_rfl) (by kernel_rfl) (fun _ _ _ h => h) (Or.inl ⟨by rfl, ?y9n27⟩) hHeld ?r9n27
          case y9n27 => ((intro w hSw); (try dsimp only at hSw); go_simp; try with_reducible rfl)
          try simp only [Act.put, List.setIfInBounds_toArray, List.set_cons_zero, List.set_cons_succ]
          refine wpAnyH_take (i := 10) (oi := ⟨some 147, _, _, _, _, _⟩) (v := ?v10n28) rfl (by kernel_rfl) (by kernel_rfl) (by kernel_rfl) (fun _ _ _ h => h) (Or.inl ⟨by rfl, ?y10n28⟩) hHeld ?r10n28
          case y10n28 => ((intro w hSw); (try dsimp only at hSw); go_simp; try with_reducible rfl)
          try simp only [Act.put, List.setIfInBounds_toArray, List.set_cons_zero, List.set_cons_succ]
          refine wpAnyH_take (i := 11) (oi := ⟨some 148, _, _, _, _, _⟩) (v := ?v11n29) rfl (by kernel_rfl) (by kernel_rfl) (by kernel_rfl) (fun _ _ _ h => h) (Or.inl ⟨by rfl, ?y11n29⟩) hHeld ?r11n29
          case y11n29 => ((intro w hSw); (try dsimp only at hSw); go_simp; try with_reducible rfl)
          try simp only [Act.put, List.setIfInBounds_toArray, List.set_cons_zero, List.set_cons_succ]
          refine wpAnyH_ready (rs := [12]) (by kernel_rfl) (by simp) (AllReadyH.cons (o := ⟨some 2, _, _, _, _, _⟩) rfl (fun K hK => ?_) AllReadyH.nil)
          go_simp
          refine hK.out _ _ (hb_v26.alloc hb_v26.size _) (fun hHeld => ?_)
          clear hK K
          try simp only [Act.put, List.setIfInBounds_toArray, List.set_cons_zero, List.set_cons_succ]
          have hb_v30 : Below w2.heap.size w2 (v26.alloc (.cells #[.int .i64 0, .int .i64 0, .slice none 0 0] 24)) := hb_v26.alloc hb_v26.size _
          have hx_v30 := hp_new0 v26 (.cells #[.int .i64 0, .int .i64 0, .slice none 0 0] 24)
          have hrl : w2.heap.size ≤ v26.heap.size := hb_v26.size
          generalize v26.alloc (.cells #[.int .i64 0, .int .i64 0, .slice none 0 0] 24) = v30 at *
          obtain ⟨rb, hrb⟩ : ∃ rb, rb = v26.heap.size := ⟨_, rfl⟩
          rw [← hrb] at hx_v30 hrl ⊢
          clear hrb hb_v26
          have q0 := hp_cell (j := 0) hx_v30 rfl
          have q1 := hp_cell (j := 1) hx_v30 rfl
          have q2 := hp_cell (j := 2) hx_v30 rfl
          have qf := hp_froz hx_v30
          refine wpAnyH_ready (rs := [13]) (by kernel_rfl) (by simp) (AllReadyH.cons (o := ⟨none, _, _, _, _, _⟩) rfl (fun K hK => ?_) AllReadyH.nil)
          go_simp
          refine hK.out _ _ (((hb_v30.setCell (p := ⟨rb, 0, none⟩) hrl _).setCell (p := ⟨rb, 1, none⟩) hrl _).setCell (p := ⟨rb, 2, none⟩) hrl _) (fun hHeld => ?_)
          clear hK K
          try simp only [Act.put, List.setIfInBounds_toArray, List.set_cons_zero, List.set_cons_succ]
          refine wpAnyH_ready (rs := [14]) (by kernel_rfl) (by simp) (AllReadyH.cons (o := ⟨some 3, _, _, _, _, _⟩) rfl (fun K hK => ?_) AllReadyH.nil)
          go_simp
          refine hK.out _ _ (((hb_v30.setCell (p := ⟨rb, 0, none⟩) hrl _).setCell (p := ⟨rb, 1, none⟩) hrl _).setCell (p := ⟨rb, 2, none⟩) hrl _) (fun hHeld => ?_)
          clear hK K
          try simp only [Act.put, List.setIfInBounds_toArray, List.set_cons_zero, List.set_cons_succ]
          refine wpAnyH_done (by kernel_rfl) ?_ _
          clear q0 q1 q2 qf
          go_wp2_with fail
          go_meet
          exact hdp_bad hb_v30 hrl HZ.out
        · go_simp
          refine hK.out _ _ (hb_wd.alloc hb_wd.size _) (fun hHeld => ?_)
          clear hK K
          try simp only [Act.put, List.setIfInBounds_toArray, List.set_cons_zero, List.set_cons_succ]
          have hb_v31 : Below w2.heap.size w2 (wd.alloc (.cells #[.int .i64 0, .int .i64 0, .slice none 0 0] 24)) := hb_wd.alloc hb_wd.size _
          have hx_v31 := hp_new0 wd (.cells #[.int .i64 0, .int .i64 0, .slice none 0 0] 24)
          have hrl : w2.heap.size ≤ wd.heap.size := hb_wd.size
          generalize wd.alloc (.cells #[.int .i64 0, .int .i64 0, .slice none 0 0] 24) = v31 at *
          obtain ⟨rb, hrb⟩ : ∃ rb, rb = wd.heap.size := ⟨_, rfl⟩
          rw [← hrb] at hx_v31 hrl ⊢
          clear hrb hb_wd
          refine wpAnyH_ready (rs := [8]) (by kernel_rfl) (by simp) (AllReadyH.cons (o := ⟨some 146, _, _, _, _, _⟩) rfl (fun K hK => ?_) AllReadyH.nil)
          go_simp
          refine (new_prog W (Hn : Nat) (by unfold In64; omega) (by unfold In64; omega) v31).mono ?_
          rintro e v32 ⟨hB, ⟨h, _⟩ | ⟨_, rfl⟩⟩
          · exact absurd h HZ.out
          have hb_v32 := hb_v31.trans (hB.mono hb_v31.size)
          have hx_v32 := hp_below hx_v31 hB (lt_heap hx_v31)
          clear hB hb_v31 hx_v31
          go_wp2_with fail
          refine hK.out _ _ hb_v32 (fun hHeld => ?_)
          clear hK K
          try simp only [Act.put, List.setIfInBounds_toArray, List.set_cons_zero, List.set_cons_succ]
          refine wpAnyH_take (i := 9) (oi := ⟨some 137, _, _, _, _, _⟩) (v := ?v9n33) rfl (by kernel_rfl) (by kernel_rfl) (by kernel_rfl) (fun _ _ _ h => h) (Or.inl ⟨by rfl, ?y9n33⟩) hHeld ?r9n33
          case y9n33 => ((intro w hSw); (try dsimp only at hSw); go_simp; try with_reducible rfl)
          try simp only [Act.put, List.setIfInBounds_toArray, List.set_cons_zero, List.set_cons_succ]
          refine wpAnyH_take (i := 10) (oi := ⟨some 147, _, _, _, _, _⟩) (v := ?v10n34) rfl (by kernel_rfl) (by kernel_rfl) (by kernel_rfl) (fun _ _ _ h => h) (Or.inl ⟨by rfl, ?y10n34⟩) hHeld ?r10n34
          case y10n34 => ((intro w hSw); (try dsimp only at hSw); go_simp; try with_reducible rfl)
          try simp only [Act.put, List.setIfInBounds_toArray, List.set_cons_zero, List.set_cons_succ]
          refine wpAnyH_take (i := 11) (oi := ⟨some 148, _, _, _, _, _⟩) (v := ?v11n35) rfl (by kernel_rfl) (by kernel_rfl) (by kernel_rfl) (fun _ _ _ h => h) (Or.inl ⟨by rfl, ?y11n35⟩) hHeld ?r11n35
          case y11n35 => ((intro w hSw); (try dsimp only at hSw); go_simp; try with_reducible rfl)
          try simp only [Act.put, List.setIfInBounds_toArray, List.set_cons_zero, List.set_cons_succ]
          have q0 := hp_cell (j := 0) hx_v32 rfl
          have q1 := hp_cell (j := 1) hx_v32 rfl
          have q2 := hp_cell (j := 2) hx_v32 rfl
          have qf := hp_froz hx_v32
          refine wpAnyH_ready (rs := [13]) (by kernel_rfl) (by simp) (AllReadyH.cons (o := ⟨none, _, _, _, _, _⟩) rfl (fun K hK => ?_) AllReadyH.nil)
          go_simp
          refine hK.out _ _ (((hb_v32.setCell (p := ⟨rb, 0, none⟩) hrl _).setCell (p := ⟨rb, 1, none⟩) hrl _).setCell (p := ⟨rb, 2, none⟩) hrl _) (fun hHeld => ?_)
          clear hK K
          try simp only [Act.put, List.setIfInBounds_toArray, List.set_cons_zero, List.set_cons_succ]
          refine wpAnyH_ready (rs := [14]) (by kernel_rfl) (by simp) (AllReadyH.cons (o := ⟨some 3, _, _, _, _, _⟩) rfl (fun K hK => ?_) AllReadyH.nil)
          go_simp
          refine hK.out _ _ (((hb_v32.setCell (p := ⟨rb, 0, none⟩) hrl _).setCell (p := ⟨rb, 1, none⟩) hrl _).setCell (p := ⟨rb, 2, none⟩) hrl _) (fun hHeld => ?_)
          clear hK K
          try simp only [Act.put, List.setIfInBounds_toArray, List.set_cons_zero, List.set_cons_succ]
          refine wpAnyH_done (by kernel_rfl) ?_ _
          clear q0 q1 q2 qf
          go_wp2_with fail
          go_meet
          exact hdp_bad hb_v32 hrl HZ.out
    case rest =>
    obtain ⟨hC, ⟨hz, hs3, rb, ga, n4, cap', hn4, hs2, hx, hO, hn, hc, hgw, hne, hrb2⟩ | ⟨hz, hs3⟩⟩ := hcut
    rotate_left
    · subst hs3
      have HX6 : Hid (headE d m = 6) := Lib.hid (by
        obtain ⟨a1, a2, a3, a4, a5⟩ := HWH.out
        obtain ⟨f1, f2, f3, f4, f5⟩ := HF.out
        refine headE_6 (by omega) f2 f3 (by omega) f5 ?_
        rw [show bmH d = H from a2.symm, show bmW d = W from a1.symm, ← HHN.out]
        exact hz)
      have t1 : (sizeE W (Hn : Nat) == 0) = false := beq_eq_false_iff_ne.2 hz
      have HCx := Lib.hid (HCc.out.trans (hC.mono (T := [g]) (by simp)))
      clear hz hC
      go_wp2_with fail
      refine (bmust_no 6 _).mono ?_
      rintro e w1 ⟨hp, rfl⟩
      obtain rfl := hp
      go_wp2_with fail
      exact ⟨rfl, HCx.out, .inl (by rw [HE.out, HX6.out]; exact ⟨by decide, rfl⟩)⟩
    subst hs3 hs2
    have HX0 : Hid (headE d m = 0 ∧ sizeE (bmW d) ((bmH d).natAbs : Nat) = 0) := Lib.hid (by
      obtain ⟨a1, a2, a3, a4, a5⟩ := HWH.out
      obtain ⟨f1, f2, f3, f4, f5⟩ := HF.out
      have hz2 : sizeE (bmW d) ((bmH d).natAbs : Nat) = 0 := by
        rw [show bmH d = H from a2.symm, show bmW d = W from a1.symm, ← HHN.out]
        exact hz
      exact ⟨headE_0 (by omega) f2 f3 (by omega) f5 (not_not_intro hz2), hz2⟩)
    have HCx := Lib.hid (HCc.out.trans (hC.mono (T := [g]) (by simp)))
    have hSx := HSc.out.chg0 hC
    have hgl : g < w2.heap.size := lt_heap HSc.out.hR
    have l0 := hp_cell (j := 0) hx rfl
    have l1 := hp_cell (j := 1) hx rfl
    have l2 := hp_cell (j := 2) hx rfl
    have hs14 := hSx.set HK.out 14 (.int .i64 W)
    have hs15 := hs14.set HK.out 15 (.int .i64 (Hn : Nat))
    have k14 : wc.cell? ⟨g, 14, none⟩ = some (.int .i64 0) := hSx.cell rfl
    have k15 : (wc.setCell ⟨g, 14, none⟩ (.int .i64 W)).cell? ⟨g, 15, none⟩ = some (.int .i64 0) := hs14.cell rfl
    have k16 : ((wc.setCell ⟨g, 14, none⟩ (.int .i64 W)).setCell ⟨g, 15, none⟩ (.int .i64 (Hn : Nat))).cell? ⟨g, 16, none⟩ = some (.slice none 0 0) := hs15.cell rfl
    have z14 := hp_froz hSx.hR
    have z15 := hp_froz hs14.hR
    have z16 := hp_froz hs15.hR
    have HSy : Hid (HdS g m A d (rdC A m cap off S W (Hn : Nat) (decide (H < 0)) bits kind used noB (.slice none 0 0) (.int .i64 W) (.int .i64 (Hn : Nat)) (.slice (some ⟨ga, 0, none⟩) n4 cap') 0 0 0 (14 + S)) _) := Lib.hid (hs15.set HK.out 16 (.slice (some ⟨ga, 0, none⟩) n4 cap'))
    have HCy := Lib.hid (((HCx.out.set (g := g) (.inl (by simp)) 14 (.int .i64 W)).set (g := g) (.inl (by simp)) 15 (.int .i64 (Hn : Nat))).set (g := g) (.inl (by simp)) 16 (.slice (some ⟨ga, 0, none⟩) n4 cap'))
    have hgg : ¬ga = g := by omega
    have HOy := Lib.hid (own_oth (own_oth (own_oth hO hgg 14 (.int .i64 W)) hgg 15 (.int .i64 (Hn : Nat))) hgg 16 (.slice (some ⟨ga, 0, none⟩) n4 cap'))
    have HNN := Lib.hid (And.intro hn4 (And.intro hn (And.intro hc (And.intro (Nat.le_trans HCc.out.size hgw) hgw))))
    clear hz hC hx hO hn4 hn hc hs14 hs15 hSx HCx
    go_wp2_with fail
    refine (bmust_yes 6 _).mono ?_
    rintro e w1 ⟨rfl, rfl⟩
    go_wp2_with fail
    go_end0
    obtain ⟨a1, a2, a3, a4, a5⟩ := HWH.out
    obtain ⟨b1, b2, b3, b4, b5⟩ := HNN.out
    obtain ⟨o1, o2⟩ := HOF.out
    refine ⟨HCy.out, .inr ⟨by rw [HE.out, HX0.out.1], HF.out, HX0.out.2, rfl, ga, n4, cap', ?_, b2, b3, b4, ?_, HOy.out⟩⟩
    · rw [show bmH d = H from a2.symm, show bmW d = W from a1.symm, ← HHN.out]
      exact b1
    · unfold hdC bmOff bmS bmBits bmK
      rw [show bmH d = H from a2.symm, show bmW d = W from a1.symm, ← HHN.out, ← o1, ← o2, ← a3, ← a4, ← a5]
      exact HSy.out
end Go.Proofs.YthgafdbdmemkhaaDoor
