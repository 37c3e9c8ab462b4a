/- bmpread: mask. -/
import Derived.Test.YthgafdbdmemkhaaDoorM17

namespace Go.Proofs.YthgafdbdmemkhaaDoor
set_option maxRecDepth 100000
set_option linter.unusedVariables false
open Go.ChangeShapes Go.WideShapes Go.ChangeAt Go.RowKit

/-- What is wrong with masks. -/
def maskE (b : Nat → Nat) (n : Nat) : Nat := if bmK b = 3 ∧ n < 54 + 4 * bmMany b then 2 else if bmK b = 3 ∧ masksB (bmMask b) (bmBits b) = false then 4 else 0
theorem masks_16 : masksB m16 16 = true := by decide
theorem masks_32 : masksB m32 32 = true := by decide
theorem masks_run {f : Nat → Nat} {bits : Nat} (h : masksB f bits = true) : ∀ j, j < 4 → (runM (f j)).2.2 = true ∨ j = 3 := fun j hj => by
  rw [masksB, List.all_eq_true] at h
  have h1 := h j (List.mem_range.2 hj)
  unfold msOk at h1
  by_cases h3 : j = 3
  · exact .inr h3
  · left
    simp [h3] at h1
    exact h1.1.1.1
theorem bmMask_0 {d : Nat → Nat} (h : bmK d = 0) : bmMask d = mDef (bmBits d) := by
  funext i
  rw [bmMask, if_neg (by omega)]
theorem mDef_16 : mDef 16 = m16 := by funext i; rw [mDef, if_pos rfl]
theorem mDef_32 : mDef 32 = m32 := by funext i; rw [mDef, if_neg (by omega), if_pos rfl]
/-- Masks read up to the i-th. -/
def mRd (d : Nat → Nat) (i j : Nat) : Nat := if j < i then lowD d (54 + 4 * j) 4 else 0
theorem mRd_all {d : Nat → Nat} (h : bmK d = 3) (hb : bmBits d = 16 ∨ bmBits d = 32) (hm : bmMany d = 3 ∨ bmMany d = 4) (j : Nat) (hj : j < 4) : mRd d (bmMany d) j = bmMask d j := by
  unfold mRd bmMask
  by_cases h1 : j < bmMany d
  · rw [if_pos h1, if_pos ⟨h, h1⟩]
  · rw [if_neg h1, if_neg (fun q => h1 q.2)]
    obtain rfl : j = 3 := by omega
    rcases hb with e | e <;> rw [e] <;> rfl
section
variable {A : Option Addr} {m cap off S : Nat} {W H : Int} {down : Bool} {bits kind used : Nat} {f f' : Nat → Nat} {col r0 r1 r2 : Value} {p x y e : Nat}
theorem rdC_f (h : ∀ j, j < 4 → f j = f' j) : rdC A m cap off S W H down bits kind used f col r0 r1 r2 p x y e = rdC A m cap off S W H down bits kind used f' col r0 r1 r2 p x y e := by
  unfold rdC
  rw [h 0 (by omega), h 1 (by omega), h 2 (by omega), h 3 (by omega)]
theorem rdC_mask (d : Nat → Nat) (i : Nat) (hi : i < 4) : (rdC A m cap off S W H down bits kind used (mRd d i) col r0 r1 r2 p x y e).setIfInBounds (9 + i) (.int .u32 ((lowD d (54 + 4 * i) 4 : Nat) : Int)) = rdC A m cap off S W H down bits kind used (mRd d (i + 1)) col r0 r1 r2 p x y e := by
  have h : i = 0 ∨ i = 1 ∨ i = 2 ∨ i = 3 := by omega
  rcases h with rfl | rfl | rfl | rfl <;> rfl
theorem rdC_at (i : Nat) (hi : i < 4) : (rdC A m cap off S W H down bits kind used f col r0 r1 r2 p x y e)[9 + i]? = some (.int .u32 (f i : Nat)) := by
  have h : i = 0 ∨ i = 1 ∨ i = 2 ∨ i = 3 := by omega
  rcases h with rfl | rfl | rfl | rfl <;> rfl
end
/-- What mask came to. -/
def MaskR (g m cap : Nat) (A : Option Addr) (d : Nat → Nat) (off : Nat) (W H : Int) (down : Bool) (used : Nat) (col r0 r1 r2 : Value) (w : World) (E : Nat) (e : Ending) (w' : World) : Prop :=
  Chg [g] w w' ∧ (E ≠ 0 ∧ PanB E e ∨ E = 0 ∧ e = .returned (.tuple #[]) ∧ HdS g m A d (rdC A m cap off (bmS d) W H down (bmBits d) (bmK d) used (bmMask d) col r0 r1 r2 0 0 0 (bmE1 d)) w' ∧ ∀ j, j < 4 → (runM (bmMask d j)).2.2 = true ∨ j = 3)
set_option maxRecDepth 100000 in
set_option maxHeartbeats 4000000 in
theorem mask_0 (g m cap : Nat) (A : Option Addr) (d : Nat → Nat) (off : Nat) (W H : Int) (down : Bool) (used : Nat) (col r0 r1 r2 : Value) (w : World) (K : HdC g m cap A d) (hk : bmK d = 0) (hb : bmBits d = 16 ∨ bmBits d = 32) (h : HdS g m A d (rdC A m cap off (bmS d) W H down (bmBits d) (bmK d) used noB col r0 r1 r2 0 0 0 (14 + bmS d)) w) :
    Calls Tryd.prog 43 #[.pointer (some ⟨g, 0, none⟩)] w (MaskR g m cap A d off W H down used col r0 r1 r2 w (maskE d m)) := by
  have hE : maskE d m = 0 := by rw [maskE, if_neg (by omega), if_neg (by omega)]
  have hE1 : bmE1 d = 14 + bmS d := by rw [bmE1, if_neg (by omega)]; rfl
  have hM := bmMask_0 hk
  unfold MaskR
  rw [hE, hE1, hM]
  have HK := Lib.hid K
  rw [hk] at h ⊢
  have hf : masksB (mDef (bmBits d)) (bmBits d) = true := by
    rcases hb with e | e <;> rw [e]
    · rw [mDef_16]; exact masks_16
    · rw [mDef_32]; exact masks_32
  have HF := Lib.hid hf
  obtain ⟨bits, hbe⟩ : ∃ bits, bits = bmBits d := ⟨_, rfl⟩
  rw [← hbe] at hb h HF ⊢
  have HS := Lib.hid h
  have hlt : ∀ i, mDef bits i < 4294967296 := fun i => by
    rcases hb with rfl | rfl
    · rw [mDef_16]; unfold m16; (repeat' split) <;> omega
    · rw [mDef_32]; unfold m32; (repeat' split) <;> omega
  have HL := Lib.hid hlt
  have c7 : w.cell? ⟨g, 7, none⟩ = some (.int .i64 ((0 : Nat) : Int)) := h.cell rfl
  have c6 : w.cell? ⟨g, 6, none⟩ = some (.int .i64 (bits : Nat)) := h.cell rfl
  have c9 : w.cell? ⟨g, 9, none⟩ = some (.int .u32 ((0 : Nat) : Int)) := h.cell rfl
  have c10 : w.cell? ⟨g, 10, none⟩ = some (.int .u32 ((0 : Nat) : Int)) := h.cell rfl
  have c11 : w.cell? ⟨g, 11, none⟩ = some (.int .u32 ((0 : Nat) : Int)) := h.cell rfl
  have c12 : w.cell? ⟨g, 12, none⟩ = some (.int .u32 ((0 : Nat) : Int)) := h.cell rfl
  have fz := hp_froz h.hR
  have HB := Lib.hid hb
  have hs := (((h.set K 9 (.int .u32 (mDef bits 0 : Nat))).set K 10 (.int .u32 (mDef bits 1 : Nat))).set K 11 (.int .u32 (mDef bits 2 : Nat))).set K 12 (.int .u32 (mDef bits 3 : Nat))
  have hC := ((((Chg.refl [g] w).set (g := g) (.inl (by simp)) 9 (.int .u32 (mDef bits 0 : Nat))).set (g := g) (.inl (by simp)) 10 (.int .u32 (mDef bits 1 : Nat))).set (g := g) (.inl (by simp)) 11 (.int .u32 (mDef bits 2 : Nat))).set (g := g) (.inl (by simp)) 12 (.int .u32 (mDef bits 3 : Nat))
  have HS2 : Hid (HdS g m A d (rdC A m cap off (bmS d) W H down bits 0 used (mDef bits) col r0 r1 r2 0 0 0 (14 + bmS d)) _) := Lib.hid hs
  have HC := Lib.hid hC
  clear h K hbe hf hM hE hE1 hk hs hC hlt
  rcases hb with rfl | rfl
  · rw [mDef_16] at HS2 HC HF HL ⊢
    go_enter Tryd.func43, Tryd.ntmps43
    go_upto_region 14 with fail
    clear c7 c6 c9 c10 c11 c12 fz
    replace HS2 : Hid (HdS g m A d (rdC A m cap off (bmS d) W H down 16 0 used m16 col r0 r1 r2 0 0 0 (14 + bmS d)) ((((w.setCell ⟨g, 9, none⟩ (.int .u32 31744)).setCell ⟨g, 10, none⟩ (.int .u32 992)).setCell ⟨g, 11, none⟩ (.int .u32 31)).setCell ⟨g, 12, none⟩ (.int .u32 0))) := HS2
    replace HC : Hid (Chg [g] w ((((w.setCell ⟨g, 9, none⟩ (.int .u32 31744)).setCell ⟨g, 10, none⟩ (.int .u32 992)).setCell ⟨g, 11, none⟩ (.int .u32 31)).setCell ⟨g, 12, none⟩ (.int .u32 0))) := HC
    generalize (((w.setCell ⟨g, 9, none⟩ (.int .u32 31744)).setCell ⟨g, 10, none⟩ (.int .u32 992)).setCell ⟨g, 11, none⟩ (.int .u32 31)).setCell ⟨g, 12, none⟩ (.int .u32 0) = w2 at *
    go_wp2_with fail
    refine (check_b g 16 (.inl rfl) m16 HL.out w2 HS2.out.hT (HS2.out.cell rfl) (HS2.out.cell rfl) (HS2.out.cell rfl) (HS2.out.cell rfl) (HS2.out.cell rfl)).mono ?_
    rintro e w3 ⟨rfl, k, rfl⟩
    rw [HF.out]
    go_wp2_with fail
    refine (bmust_yes 4 _).mono ?_
    rintro e w3 ⟨rfl, rfl⟩
    go_wp2_with fail
    go_end0
    exact ⟨HC.out.drewN k, .inr ⟨trivial, rfl, HS2.out.drewN k, masks_run masks_16⟩⟩
  · rw [mDef_32] at HS2 HC HF HL ⊢
    go_enter Tryd.func43, Tryd.ntmps43
    go_upto_region 14 with fail
    clear c7 c6 c9 c10 c11 c12 fz
    replace HS2 : Hid (HdS g m A d (rdC A m cap off (bmS d) W H down 32 0 used m32 col r0 r1 r2 0 0 0 (14 + bmS d)) ((((w.setCell ⟨g, 9, none⟩ (.int .u32 16711680)).setCell ⟨g, 10, none⟩ (.int .u32 65280)).setCell ⟨g, 11, none⟩ (.int .u32 255)).setCell ⟨g, 12, none⟩ (.int .u32 0))) := HS2
    replace HC : Hid (Chg [g] w ((((w.setCell ⟨g, 9, none⟩ (.int .u32 16711680)).setCell ⟨g, 10, none⟩ (.int .u32 65280)).setCell ⟨g, 11, none⟩ (.int .u32 255)).setCell ⟨g, 12, none⟩ (.int .u32 0))) := HC
    generalize (((w.setCell ⟨g, 9, none⟩ (.int .u32 16711680)).setCell ⟨g, 10, none⟩ (.int .u32 65280)).setCell ⟨g, 11, none⟩ (.int .u32 255)).setCell ⟨g, 12, none⟩ (.int .u32 0) = w2 at *
    go_wp2_with fail
    refine (check_b g 32 (.inr rfl) m32 HL.out w2 HS2.out.hT (HS2.out.cell rfl) (HS2.out.cell rfl) (HS2.out.cell rfl) (HS2.out.cell rfl) (HS2.out.cell rfl)).mono ?_
    rintro e w3 ⟨rfl, k, rfl⟩
    rw [HF.out]
    go_wp2_with fail
    refine (bmust_yes 4 _).mono ?_
    rintro e w3 ⟨rfl, rfl⟩
    go_wp2_with fail
    go_end0
    exact ⟨HC.out.drewN k, .inr ⟨trivial, rfl, HS2.out.drewN k, masks_run masks_32⟩⟩
set_option maxRecDepth 100000 in
set_option maxHeartbeats 4000000 in
theorem mask_108 (g m cap : Nat) (A : Option Addr) (d : Nat → Nat) (off : Nat) (W H : Int) (down : Bool) (used : Nat) (col r0 r1 r2 : Value) (w : World) (K : HdC g m cap A d) (hk : bmK d = 3) (hb : bmBits d = 16 ∨ bmBits d = 32) (hS : bmS d = 108) (hm : 14 + 108 ≤ m ∧ 54 ≤ m) (h : HdS g m A d (rdC A m cap off (bmS d) W H down (bmBits d) (bmK d) used noB col r0 r1 r2 0 0 0 (14 + bmS d)) w) :
    Calls Tryd.prog 43 #[.pointer (some ⟨g, 0, none⟩)] w (MaskR g m cap A d off W H down used col r0 r1 r2 w (maskE d m)) := by
  have hM : bmMany d = 4 := by rw [bmMany, if_pos hS]
  have hE1 : bmE1 d = (14 + 108) := by rw [bmE1, if_neg (by omega), hS]
  have HMR : Hid (∀ j, j < 4 → mRd d 4 j = bmMask d j) := Lib.hid (fun j hj => by rw [← hM]; exact mRd_all hk hb (by rw [hM]; decide) j hj)
  have HK := Lib.hid K
  obtain ⟨E, hE⟩ : ∃ E, E = maskE d m := ⟨_, rfl⟩
  unfold MaskR
  rw [← hE, hE1, hS, hk]
  unfold maskE at hE
  rw [hM, hk] at hE
  rw [hS, hk] at h
  have HBL : Hid (∀ i, bmMask d i < 4294967296) := Lib.hid (fun i => by
    unfold bmMask
    split
    · have := lowD_lt HK.out.hd (54 + 4 * i) 4
      rw [show (256 : Nat) ^ 4 = 4294967296 from rfl] at this
      exact this
    · rcases hb with e | e <;> rw [e]
      · rw [mDef_16]; unfold m16; (repeat' split) <;> omega
      · rw [mDef_32]; unfold m32; (repeat' split) <;> omega)
  obtain ⟨bits, hbe⟩ : ∃ bits, bits = bmBits d := ⟨_, rfl⟩
  rw [← hbe] at hb h hE ⊢
  have HE := Lib.hid hE
  rw [rdC_f (f' := mRd d 0) (fun j _ => by simp [mRd, noB])] at h
  have HS := Lib.hid h
  have HC := Lib.hid (Chg.refl [g] w)
  have c2 : w.cell? ⟨g, 2, none⟩ = some (.int .i64 ((108 : Nat) : Int)) := h.cell rfl
  have c7 : w.cell? ⟨g, 7, none⟩ = some (.int .i64 ((3 : Nat) : Int)) := h.cell rfl
  have hmm := K.hm
  clear hk hS hM hE1 K hE hbe h
  go_enter Tryd.func43, Tryd.ntmps43
  go_wp2_with fail
  clear c2 c7
  go_loopw [30] (fun q wr => ∃ i : Nat, i ≤ 4 ∧ q = .int .i64 (i : Nat) ∧ Chg [g] w wr ∧ HdS g m A d (rdC A m cap off 108 W H down bits 3 used (mRd d i) col r0 r1 r2 0 0 0 (14 + 108)) wr) (fun q _ => 4 - (intOf q).toNat)
  case atStart => exact ⟨0, by omega, rfl, HC.out, HS.out⟩
  case round =>
    clear HC HS
    obtain ⟨i, hi, rfl, hC, hS⟩ := hrel
    have HC := Lib.hid hC
    have HS := Lib.hid hS
    clear hC hS
    by_cases hlt : i < 4
    · have hi4 : i < 4 := by omega
      have hp4 : 54 + 4 * i + 4 ≤ m := by omega
      have HSd := Lib.hid HS.out.drew
      obtain ⟨v, hv⟩ : ∃ v, v = lowD d (54 + 4 * i) 4 := ⟨_, rfl⟩
      have hv32 : v < 4294967296 := by
        have := lowD_lt HK.out.hd (54 + 4 * i) 4
        rw [show (256 : Nat) ^ 4 = 4294967296 from rfl] at this
        omega
      have HV := Lib.hid hv
      have HAI : Hid (IntKind.i64.wrap (54 + IntKind.i64.wrap (4 * (i : Int))) = ((54 + 4 * i : Nat) : Int)) := Lib.hid (by rw [IntWalk.i64_in (4 * (i : Int)) (by omega), IntWalk.i64_in _ (by omega)]; omega)
      have b0 : (0 : Int) ≤ (i : Int) := by omega
      have b4 : (i : Int) < 4 := by omega
      clear hv
      go_wp2_with fail
      go_upto_region 8 with fail
      refine wp_region_held_drew (S := fun _ => True) (by kernel_rfl) trivial (fun hHeld => ?_)
      refine wpAnyH_take (i := 0) (oi := ⟨some 33, _, _, _, _, _⟩) (v := ?v0) rfl (by kernel_rfl) (by kernel_rfl) (by kernel_rfl) (fun _ _ _ h => h) (Or.inl ⟨by rfl, ?y0⟩) hHeld ?r0
      case y0 => ((intro w hSw); (try dsimp only at hSw); go_simp; try with_reducible rfl)
      try simp only [Act.put, List.setIfInBounds_toArray, List.set_cons_zero, List.set_cons_succ]
      refine wpAnyH_take (i := 1) (oi := ⟨some 34, _, _, _, _, _⟩) (v := ?v1) rfl (by kernel_rfl) (by kernel_rfl) (by kernel_rfl) (fun _ _ _ h => h) (Or.inl ⟨by rfl, ?y1⟩) hHeld ?r1
      case y1 => ((intro w hSw); (try dsimp only at hSw); go_simp; try with_reducible rfl)
      try simp only [Act.put, List.setIfInBounds_toArray, List.set_cons_zero, List.set_cons_succ]
      refine wpAnyH_take (i := 2) (oi := ⟨some 35, _, _, _, _, _⟩) (v := ?v2) rfl (by kernel_rfl) (by kernel_rfl) (by kernel_rfl) (fun _ _ _ h => h) (Or.inl ⟨by rfl, ?y2⟩) hHeld ?r2
      case y2 => ((intro w hSw); (try dsimp only at hSw); go_simp; try with_reducible rfl)
      try simp only [Act.put, List.setIfInBounds_toArray, List.set_cons_zero, List.set_cons_succ]
      refine wpAnyH_take (i := 3) (oi := ⟨some 36, _, _, _, _, _⟩) (v := ?v3) rfl (by kernel_rfl) (by kernel_rfl) (by kernel_rfl) (fun _ _ _ h => h) (Or.inl ⟨by rfl, ?y3⟩) hHeld ?r3
      case y3 => ((intro w hSw); (try dsimp only at hSw); go_simp; try with_reducible rfl)
      try simp only [Act.put, List.setIfInBounds_toArray, List.set_cons_zero, List.set_cons_succ]
      refine wpAnyH_take (i := 4) (oi := ⟨some 37, _, _, _, _, _⟩) (v := ?v4) rfl (by kernel_rfl) (by kernel_rfl) (by kernel_rfl) (fun _ _ _ h => h) (Or.inl ⟨by rfl, ?y4⟩) hHeld ?r4
      case y4 => ((intro w hSw); (try dsimp only at hSw); go_simp; try with_reducible rfl)
      try simp only [Act.put, List.setIfInBounds_toArray, List.set_cons_zero, List.set_cons_succ]
      refine wpAnyH_take (i := 5) (oi := ⟨some 38, _, _, _, _, _⟩) (v := ?v5) rfl (by kernel_rfl) (by kernel_rfl) (by kernel_rfl) (fun _ _ _ h => h) (Or.inl ⟨by rfl, ?y5⟩) hHeld ?r5
      case y5 => ((intro w hSw); (try dsimp only at hSw); go_simp; try with_reducible rfl)
      try simp only [Act.put, List.setIfInBounds_toArray, List.set_cons_zero, List.set_cons_succ]
      refine wpAnyH_take (i := 8) (oi := ⟨some 41, _, _, _, _, _⟩) (v := ?v8) rfl (by kernel_rfl) (by kernel_rfl) (by kernel_rfl) (fun _ _ _ h => h) (Or.inl ⟨by rfl, ?y8⟩) hHeld ?r8
      case y8 => ((intro w hSw); (try dsimp only at hSw); go_simp; try with_reducible rfl)
      try simp only [Act.put, List.setIfInBounds_toArray, List.set_cons_zero, List.set_cons_succ]
      refine wpAnyH_take (i := 9) (oi := ⟨some 42, _, _, _, _, _⟩) (v := ?v9) rfl (by kernel_rfl) (by kernel_rfl) (by kernel_rfl) (fun _ _ _ h => h) (Or.inl ⟨by rfl, ?y9⟩) hHeld ?r9
      case y9 => ((intro w hSw); (try dsimp only at hSw); go_simp; try with_reducible rfl)
      try simp only [Act.put, List.setIfInBounds_toArray, List.set_cons_zero, List.set_cons_succ]
      refine wpAnyH_ready (rs := [6]) (by kernel_rfl) (by simp) (AllReadyH.cons (o := ⟨some 39, _, _, _, _, _⟩) rfl (fun K hK => ?_) AllReadyH.nil)
      go_simp
      rw [HAI.out]
      refine (four_h HK.out HSd.out rfl (54 + 4 * i) hp4).mono ?_
      rintro e w5 ⟨rfl, hC5, hS5⟩
      rw [← HV.out]
      have HC5 := Lib.hid (HC.out.drew.trans hC5)
      have HS5 := Lib.hid hS5
      have c5 : w5.cell? ⟨g, 9 + i, none⟩ = some (.int .u32 ((mRd d i i : Nat) : Int)) := hS5.cell (rdC_at i hi4)
      have f5 := hp_froz hS5.hR (9 + i)
      clear hC5 hS5
      go_wp2_with fail
      refine hK.out _ _ trivial (fun hHeld => ?_)
      clear hK K
      try simp only [Act.put, List.setIfInBounds_toArray, List.set_cons_zero, List.set_cons_succ]
      refine wpAnyH_take (i := 7) (oi := ⟨some 40, _, _, _, _, _⟩) (v := ?v7b) rfl (by kernel_rfl) (by kernel_rfl) (by kernel_rfl) (fun _ _ _ h => h) (Or.inl ⟨by rfl, ?y7b⟩) hHeld ?r7b
      case y7b => ((intro w hSw); (try dsimp only at hSw); go_simp; try with_reducible rfl)
      try simp only [Act.put, List.setIfInBounds_toArray, List.set_cons_zero, List.set_cons_succ]
      refine wpAnyH_take (i := 10) (oi := ⟨some 43, _, _, _, _, _⟩) (v := ?v10b) rfl (by kernel_rfl) (by kernel_rfl) (by kernel_rfl) (fun _ _ _ h => h) (Or.inl ⟨by rfl, ?y10b⟩) hHeld ?r10b
      case y10b => ((intro w hSw); (try dsimp only at hSw); go_simp; try with_reducible rfl)
      try simp only [Act.put, List.setIfInBounds_toArray, List.set_cons_zero, List.set_cons_succ]
      refine wpAnyH_ready (rs := [11]) (by kernel_rfl) (by simp) (AllReadyH.cons (o := ⟨none, _, _, _, _, _⟩) rfl (fun K hK => ?_) AllReadyH.nil)
      go_simp
      refine hK.out _ _ trivial (fun hHeld => ?_)
      clear hK K
      try simp only [Act.put, List.setIfInBounds_toArray, List.set_cons_zero, List.set_cons_succ]
      refine wpAnyH_done (by kernel_rfl) ?_ _
      have HS6 : Hid (HdS g m A d (rdC A m cap off 108 W H down bits 3 used (mRd d (i + 1)) col r0 r1 r2 0 0 0 (14 + 108)) (w5.setCell ⟨g, 9 + i, none⟩ (.int .u32 (v : Nat)))) := Lib.hid (by
        have h := HS5.out.set HK.out (9 + i) (.int .u32 (v : Nat))
        rw [HV.out, rdC_mask d i hi4] at h
        rw [HV.out]
        exact h)
      have HC6 := Lib.hid (HC5.out.set (g := g) (.inl (by simp)) (9 + i) (.int .u32 (v : Nat)))
      clear HC5 HS5 c5 f5
      go_wp2_with fail
      go_roundw
      case rel => exact ⟨i + 1, hlt, by go_num, HC6.out, HS6.out⟩
      case measure => simp [intOf]; omega
    · obtain rfl : i = 4 := by omega
      have hS := HS.out
      rw [rdC_f (f' := bmMask d) (HMR.out)] at hS
      have HS2 := Lib.hid hS
      clear hS HS
      go_wp2_with fail
      refine (check_b g bits hb (bmMask d) HBL.out wr HS2.out.hT (HS2.out.cell rfl) (HS2.out.cell rfl) (HS2.out.cell rfl) (HS2.out.cell rfl) (HS2.out.cell rfl)).mono ?_
      rintro e w3 ⟨rfl, k, rfl⟩
      cases hF : masksB (bmMask d) bits with
      | true =>
        go_wp2_with fail
        refine (bmust_yes 4 _).mono ?_
        rintro e w3 ⟨rfl, rfl⟩
        go_wp2_with fail
        go_end0
        rw [HE.out, if_neg (by omega), if_neg (by rw [hF]; exact fun q => Bool.noConfusion q.2)]
        exact ⟨HC.out.drewN k, .inr ⟨by first | rfl | trivial, rfl, HS2.out.drewN k, masks_run hF⟩⟩
      | false =>
        go_wp2_with fail
        refine (bmust_no 4 _).mono ?_
        rintro e w3 ⟨hp, rfl⟩
        obtain rfl := hp
        go_wp2_with fail
        rw [HE.out, if_neg (by omega), if_pos ⟨by first | rfl | trivial, hF⟩]
        exact ⟨rfl, HC.out.drewN k, .inl ⟨by decide, rfl⟩⟩
set_option maxRecDepth 100000 in
set_option maxHeartbeats 4000000 in
theorem mask_40 (g m cap : Nat) (A : Option Addr) (d : Nat → Nat) (off : Nat) (W H : Int) (down : Bool) (used : Nat) (col r0 r1 r2 : Value) (w : World) (K : HdC g m cap A d) (hk : bmK d = 3) (hb : bmBits d = 16 ∨ bmBits d = 32) (hS : bmS d = 40) (hm : 14 + 40 ≤ m ∧ 54 ≤ m) (h : HdS g m A d (rdC A m cap off (bmS d) W H down (bmBits d) (bmK d) used noB col r0 r1 r2 0 0 0 (14 + bmS d)) w) :
    Calls Tryd.prog 43 #[.pointer (some ⟨g, 0, none⟩)] w (MaskR g m cap A d off W H down used col r0 r1 r2 w (maskE d m)) := by
  have hM : bmMany d = 3 := by rw [bmMany, if_neg (by omega)]
  have hE1 : bmE1 d = 66 := by rw [bmE1, if_pos ⟨hk, hS⟩, hS]
  have HMR : Hid (∀ j, j < 4 → mRd d 3 j = bmMask d j) := Lib.hid (fun j hj => by rw [← hM]; exact mRd_all hk hb (by rw [hM]; decide) j hj)
  have HK := Lib.hid K
  obtain ⟨E, hE⟩ : ∃ E, E = maskE d m := ⟨_, rfl⟩
  unfold MaskR
  rw [← hE, hE1, hS, hk]
  unfold maskE at hE
  rw [hM, hk] at hE
  rw [hS, hk] at h
  have HBL : Hid (∀ i, bmMask d i < 4294967296) := Lib.hid (fun i => by
    unfold bmMask
    split
    · have := lowD_lt HK.out.hd (54 + 4 * i) 4
      rw [show (256 : Nat) ^ 4 = 4294967296 from rfl] at this
      exact this
    · rcases hb with e | e <;> rw [e]
      · rw [mDef_16]; unfold m16; (repeat' split) <;> omega
      · rw [mDef_32]; unfold m32; (repeat' split) <;> omega)
  obtain ⟨bits, hbe⟩ : ∃ bits, bits = bmBits d := ⟨_, rfl⟩
  rw [← hbe] at hb h hE ⊢
  have HE := Lib.hid hE
  rw [rdC_f (f' := mRd d 0) (fun j _ => by simp [mRd, noB])] at h
  have HS := Lib.hid h
  have HC := Lib.hid (Chg.refl [g] w)
  have c2 : w.cell? ⟨g, 2, none⟩ = some (.int .i64 ((40 : Nat) : Int)) := h.cell rfl
  have c7 : w.cell? ⟨g, 7, none⟩ = some (.int .i64 ((3 : Nat) : Int)) := h.cell rfl
  have hmm := K.hm
  clear hk hS hM hE1 K hE hbe h
  go_enter Tryd.func43, Tryd.ntmps43
  have c20 : w.cell? ⟨g, 20, none⟩ = some (.int .i64 ((54 : Nat) : Int)) := HS.out.cell rfl
  have fz := hp_froz HS.out.hR
  go_upto_region 4 with fail
  have HS2 : Hid (HdS g m A d (rdC A m cap off 40 W H down bits 3 used (mRd d 0) col r0 r1 r2 0 0 0 66) (w.setCell ⟨g, 20, none⟩ (.int .i64 66))) := Lib.hid (HS.out.set HK.out 20 (.int .i64 66))
  have HC2 := Lib.hid (HC.out.set (g := g) (.inl (by simp)) 20 (.int .i64 66))
  clear HS HC c2 c7 c20 fz
  generalize w.setCell ⟨g, 20, none⟩ (.int .i64 66) = w4 at *
  have c0 : w4.cell? ⟨g, 0, none⟩ = some (.slice A m cap) := HS2.out.cell rfl
  have c20 : w4.cell? ⟨g, 20, none⟩ = some (.int .i64 66) := HS2.out.cell rfl
  by_cases h4 : m < 66
  · have t1 : decide ((66 : Int) ≤ (m : Int)) = false := by simp; omega
    go_still_tail 10, (by kernel_rfl)
    repeat still_step
    try refine wpStill_nil ?_
    change wpList _ _ _ _ _ w4.drew
    go_wp2_with fail
    refine (bmust_no 2 _).mono ?_
    rintro e w1 ⟨hp, rfl⟩
    obtain rfl := hp
    go_wp2_with fail
    rw [HE.out, if_pos ⟨by first | rfl | trivial, h4⟩]
    exact ⟨rfl, HC2.out.drew, .inl ⟨by decide, rfl⟩⟩
  have t1 : decide ((66 : Int) ≤ (m : Int)) = true := by simp; omega
  go_still_tail 10, (by kernel_rfl)
  repeat still_step
  try refine wpStill_nil ?_
  change wpList _ _ _ _ _ w4.drew
  go_wp2_with fail
  refine (bmust_yes 2 _).mono ?_
  rintro e w1 ⟨rfl, rfl⟩
  have HS := Lib.hid HS2.out.drew
  have HC := Lib.hid HC2.out.drew
  clear HS2 HC2 c0 c20 t1
  generalize w4.drew = w5 at *
  go_wp2_with fail
  go_loopw [30] (fun q wr => ∃ i : Nat, i ≤ 3 ∧ q = .int .i64 (i : Nat) ∧ Chg [g] w wr ∧ HdS g m A d (rdC A m cap off 40 W H down bits 3 used (mRd d i) col r0 r1 r2 0 0 0 66) wr) (fun q _ => 3 - (intOf q).toNat)
  case atStart => exact ⟨0, by omega, rfl, HC.out, HS.out⟩
  case round =>
    clear HC HS
    obtain ⟨i, hi, rfl, hC, hS⟩ := hrel
    have HC := Lib.hid hC
    have HS := Lib.hid hS
    clear hC hS
    by_cases hlt : i < 3
    · have hi4 : i < 4 := by omega
      have hp4 : 54 + 4 * i + 4 ≤ m := by omega
      have HSd := Lib.hid HS.out.drew
      obtain ⟨v, hv⟩ : ∃ v, v = lowD d (54 + 4 * i) 4 := ⟨_, rfl⟩
      have hv32 : v < 4294967296 := by
        have := lowD_lt HK.out.hd (54 + 4 * i) 4
        rw [show (256 : Nat) ^ 4 = 4294967296 from rfl] at this
        omega
      have HV := Lib.hid hv
      have HAI : Hid (IntKind.i64.wrap (54 + IntKind.i64.wrap (4 * (i : Int))) = ((54 + 4 * i : Nat) : Int)) := Lib.hid (by rw [IntWalk.i64_in (4 * (i : Int)) (by omega), IntWalk.i64_in _ (by omega)]; omega)
      have b0 : (0 : Int) ≤ (i : Int) := by omega
      have b4 : (i : Int) < 4 := by omega
      clear hv
      go_wp2_with fail
      go_upto_region 8 with fail
      refine wp_region_held_drew (S := fun _ => True) (by kernel_rfl) trivial (fun hHeld => ?_)
      refine wpAnyH_take (i := 0) (oi := ⟨some 33, _, _, _, _, _⟩) (v := ?v0) rfl (by kernel_rfl) (by kernel_rfl) (by kernel_rfl) (fun _ _ _ h => h) (Or.inl ⟨by rfl, ?y0⟩) hHeld ?r0
      case y0 => ((intro w hSw); (try dsimp only at hSw); go_simp; try with_reducible rfl)
      try simp only [Act.put, List.setIfInBounds_toArray, List.set_cons_zero, List.set_cons_succ]
      refine wpAnyH_take (i := 1) (oi := ⟨some 34, _, _, _, _, _⟩) (v := ?v1) rfl (by kernel_rfl) (by kernel_rfl) (by kernel_rfl) (fun _ _ _ h => h) (Or.inl ⟨by rfl, ?y1⟩) hHeld ?r1
      case y1 => ((intro w hSw); (try dsimp only at hSw); go_simp; try with_reducible rfl)
      try simp only [Act.put, List.setIfInBounds_toArray, List.set_cons_zero, List.set_cons_succ]
      refine wpAnyH_take (i := 2) (oi := ⟨some 35, _, _, _, _, _⟩) (v := ?v2) rfl (by kernel_rfl) (by kernel_rfl) (by kernel_rfl) (fun _ _ _ h => h) (Or.inl ⟨by rfl, ?y2⟩) hHeld ?r2
      case y2 => ((intro w hSw); (try dsimp only at hSw); go_simp; try with_reducible rfl)
      try simp only [Act.put, List.setIfInBounds_toArray, List.set_cons_zero, List.set_cons_succ]
      refine wpAnyH_take (i := 3) (oi := ⟨some 36, _, _, _, _, _⟩) (v := ?v3) rfl (by kernel_rfl) (by kernel_rfl) (by kernel_rfl) (fun _ _ _ h => h) (Or.inl ⟨by rfl, ?y3⟩) hHeld ?r3
      case y3 => ((intro w hSw); (try dsimp only at hSw); go_simp; try with_reducible rfl)
      try simp only [Act.put, List.setIfInBounds_toArray, List.set_cons_zero, List.set_cons_succ]
      refine wpAnyH_take (i := 4) (oi := ⟨some 37, _, _, _, _, _⟩) (v := ?v4) rfl (by kernel_rfl) (by kernel_rfl) (by kernel_rfl) (fun _ _ _ h => h) (Or.inl ⟨by rfl, ?y4⟩) hHeld ?r4
      case y4 => ((intro w hSw); (try dsimp only at hSw); go_simp; try with_reducible rfl)
      try simp only [Act.put, List.setIfInBounds_toArray, List.set_cons_zero, List.set_cons_succ]
      refine wpAnyH_take (i := 5) (oi := ⟨some 38, _, _, _, _, _⟩) (v := ?v5) rfl (by kernel_rfl) (by kernel_rfl) (by kernel_rfl) (fun _ _ _ h => h) (Or.inl ⟨by rfl, ?y5⟩) hHeld ?r5
      case y5 => ((intro w hSw); (try dsimp only at hSw); go_simp; try with_reducible rfl)
      try simp only [Act.put, List.setIfInBounds_toArray, List.set_cons_zero, List.set_cons_succ]
      refine wpAnyH_take (i := 8) (oi := ⟨some 41, _, _, _, _, _⟩) (v := ?v8) rfl (by kernel_rfl) (by kernel_rfl) (by kernel_rfl) (fun _ _ _ h => h) (Or.inl ⟨by rfl, ?y8⟩) hHeld ?r8
      case y8 => ((intro w hSw); (try dsimp only at hSw); go_simp; try with_reducible rfl)
      try simp only [Act.put, List.setIfInBounds_toArray, List.set_cons_zero, List.set_cons_succ]
      refine wpAnyH_take (i := 9) (oi := ⟨some 42, _, _, _, _, _⟩) (v := ?v9) rfl (by kernel_rfl) (by kernel_rfl) (by kernel_rfl) (fun _ _ _ h => h) (Or.inl ⟨by rfl, ?y9⟩) hHeld ?r9
      case y9 => ((intro w hSw); (try dsimp only at hSw); go_simp; try with_reducible rfl)
      try simp only [Act.put, List.setIfInBounds_toArray, List.set_cons_zero, List.set_cons_succ]
      refine wpAnyH_ready (rs := [6]) (by kernel_rfl) (by simp) (AllReadyH.cons (o := ⟨some 39, _, _, _, _, _⟩) rfl (fun K hK => ?_) AllReadyH.nil)
      go_simp
      rw [HAI.out]
      refine (four_h HK.out HSd.out rfl (54 + 4 * i) hp4).mono ?_
      rintro e w6 ⟨rfl, hC6, hS6⟩
      rw [← HV.out]
      have HC6 := Lib.hid (HC.out.drew.trans hC6)
      have HS6 := Lib.hid hS6
      have c5 : w6.cell? ⟨g, 9 + i, none⟩ = some (.int .u32 ((mRd d i i : Nat) : Int)) := hS6.cell (rdC_at i hi4)
      have f5 := hp_froz hS6.hR (9 + i)
      clear hC6 hS6
      go_wp2_with fail
      refine hK.out _ _ trivial (fun hHeld => ?_)
      clear hK K
      try simp only [Act.put, List.setIfInBounds_toArray, List.set_cons_zero, List.set_cons_succ]
      refine wpAnyH_take (i := 7) (oi := ⟨some 40, _, _, _, _, _⟩) (v := ?v7b) rfl (by kernel_rfl) (by kernel_rfl) (by kernel_rfl) (fun _ _ _ h => h) (Or.inl ⟨by rfl, ?y7b⟩) hHeld ?r7b
      case y7b => ((intro w hSw); (try dsimp only at hSw); go_simp; try with_reducible rfl)
      try simp only [Act.put, List.setIfInBounds_toArray, List.set_cons_zero, List.set_cons_succ]
      refine wpAnyH_take (i := 10) (oi := ⟨some 43, _, _, _, _, _⟩) (v := ?v10b) rfl (by kernel_rfl) (by kernel_rfl) (by kernel_rfl) (fun _ _ _ h => h) (Or.inl ⟨by rfl, ?y10b⟩) hHeld ?r10b
      case y10b => ((intro w hSw); (try dsimp only at hSw); go_simp; try with_reducible rfl)
      try simp only [Act.put, List.setIfInBounds_toArray, List.set_cons_zero, List.set_cons_succ]
      refine wpAnyH_ready (rs := [11]) (by kernel_rfl) (by simp) (AllReadyH.cons (o := ⟨none, _, _, _, _, _⟩) rfl (fun K hK => ?_) AllReadyH.nil)
      go_simp
      refine hK.out _ _ trivial (fun hHeld => ?_)
      clear hK K
      try simp only [Act.put, List.setIfInBounds_toArray, List.set_cons_zero, List.set_cons_succ]
      refine wpAnyH_done (by kernel_rfl) ?_ _
      have HS7 : Hid (HdS g m A d (rdC A m cap off 40 W H down bits 3 used (mRd d (i + 1)) col r0 r1 r2 0 0 0 66) (w6.setCell ⟨g, 9 + i, none⟩ (.int .u32 (v : Nat)))) := Lib.hid (by
        have h := HS6.out.set HK.out (9 + i) (.int .u32 (v : Nat))
        rw [HV.out, rdC_mask d i hi4] at h
        rw [HV.out]
        exact h)
      have HC7 := Lib.hid (HC6.out.set (g := g) (.inl (by simp)) (9 + i) (.int .u32 (v : Nat)))
      clear HC6 HS6 c5 f5
      go_wp2_with fail
      go_roundw
      case rel => exact ⟨i + 1, hlt, by go_num, HC7.out, HS7.out⟩
      case measure => simp [intOf]; omega
    · obtain rfl : i = 3 := by omega
      have hS := HS.out
      rw [rdC_f (f' := bmMask d) (HMR.out)] at hS
      have HS2 := Lib.hid hS
      clear hS HS
      go_wp2_with fail
      refine (check_b g bits hb (bmMask d) HBL.out wr HS2.out.hT (HS2.out.cell rfl) (HS2.out.cell rfl) (HS2.out.cell rfl) (HS2.out.cell rfl) (HS2.out.cell rfl)).mono ?_
      rintro e w3 ⟨rfl, k, rfl⟩
      cases hF : masksB (bmMask d) bits with
      | true =>
        go_wp2_with fail
        refine (bmust_yes 4 _).mono ?_
        rintro e w3 ⟨rfl, rfl⟩
        go_wp2_with fail
        go_end0
        rw [HE.out, if_neg (by omega), if_neg (by rw [hF]; exact fun q => Bool.noConfusion q.2)]
        exact ⟨HC.out.drewN k, .inr ⟨by first | rfl | trivial, rfl, HS2.out.drewN k, masks_run hF⟩⟩
      | false =>
        go_wp2_with fail
        refine (bmust_no 4 _).mono ?_
        rintro e w3 ⟨hp, rfl⟩
        obtain rfl := hp
        go_wp2_with fail
        rw [HE.out, if_neg (by omega), if_pos ⟨by first | rfl | trivial, hF⟩]
        exact ⟨rfl, HC.out.drewN k, .inl ⟨by decide, rfl⟩⟩
end Go.Proofs.YthgafdbdmemkhaaDoor
