/- engraverref14.Bmp on a file of 24 or 32 bits a pixel. -/
import Derived.Test.YthgafdbdmemkhaaDoorM7
import Derived.StillTailTactics
namespace Go.Proofs.YthgafdbdmemkhaaDoor
set_option maxRecDepth 100000
set_option linter.unusedVariables false
open Go.ChangeShapes Go.WideShapes Go.ChangeAt Go.RowKit

def kindH (gt : Bool) : Nat := if gt then 3 else 0
def mkG (gt : Bool) (i : Nat) : Nat := if gt then mk8 i else 0
theorem mkG_lt (gt : Bool) (i : Nat) : mkG gt i < 4294967296 := by
  unfold mkG
  split
  · exact mk8_lt i
  · omega
theorem info_any (gt : Bool) (A : Option Addr) (m cap : Nat) (d : Nat → Nat) (a b : Nat) (h : HeadD d (sizeH gt) a b (bitsH gt) (kindH gt)) (hk : gt = true → MaskD d) (hm : 14 + sizeH gt ≤ m ∧ m ≤ 262144) (hmc : m ≤ cap) (hcap : cap ≤ maxLen) (ha : 1 ≤ a ∧ a ≤ 256) (hb : 1 ≤ b ∧ b ≤ 256) (hz : sizeE a b = 0) (w : World) (hB : Byt w A m d) :
    Calls Tryd.prog 21 #[.slice A m cap] w fun e w' => e = .returned (.tuple #[infoV a b (bitsH gt) (kindH gt) (14 + sizeH gt) (mkG gt 0) (mkG gt 1) (mkG gt 2) (mkG gt 3), .int .i64 0]) ∧ Below w.heap.size w w' := by
  cases gt with
  | true => exact info_32 A m cap d a b h (hk rfl) hm hmc hcap ha hb hz w hB
  | false => exact info_24 A m cap d a b h hm hmc hcap ha hb hz w hB
theorem zeros_16 (n : Nat) : zeros n = cells16 n (fun _ => 0) := by
  have hl : (zeros n).length = n := by simp [zeros, madeCells]
  refine List.ext_getElem? (fun j => ?_)
  by_cases hj : j < n
  · rw [cells16_get n _ j hj]
    exact zeros_get n j hj
  · rw [List.getElem?_eq_none (by omega), List.getElem?_eq_none (by simp [cells16]; omega)]
/-- What a pixel's bytes say. -/
structure PixD (gt : Bool) (d c : Nat → Nat) (p q : Nat) : Prop where
  b : d p * 257 = c (4 * q + 2)
  g : d (p + 1) * 257 = c (4 * q + 1)
  r : d (p + 2) * 257 = c (4 * q)
  a : if gt then d (p + 3) * 257 = c (4 * q + 3) else c (4 * q + 3) = 65535
theorem pix_eq {w : World} {A : Option Addr} {n : Nat} {c c' : Nat → Nat} (h : Pix w A n c) (he : ∀ j, j < n → c j = c' j) : Pix w A n c' := fun hn => by
  obtain ⟨bk, off, h1, h2, h3⟩ := h hn
  exact ⟨bk, off, h1, h2, fun j hj => by rw [h3 j hj, he j hj]⟩
theorem lowD_shift (d : Nat → Nat) (b p k : Nat) : lowD (fun j => d (b + j)) p k = lowD d (b + p) k := by
  induction k generalizing p with
  | zero => rfl
  | succ k ih => rw [lowD, lowD, ih (p + 1), Nat.add_assoc]
theorem low4 {d : Nat → Nat} (hd : ∀ j, d j < 256) (p : Nat) : lowD d p 4 % 256 = d p ∧ lowD d p 4 / 256 % 256 = d (p + 1) ∧ lowD d p 4 / 65536 % 256 = d (p + 2) ∧ lowD d p 4 / 16777216 % 256 = d (p + 3) := by
  have h0 := hd p
  have h1 := hd (p + 1)
  have h2 := hd (p + 2)
  have h3 := hd (p + 3)
  have e : lowD d p 4 = d p + 256 * (d (p + 1) + 256 * (d (p + 2) + 256 * d (p + 3))) := by
    simp only [lowD, Nat.add_assoc, Nat.mul_zero, Nat.add_zero]
  rw [e]
  omega
theorem bm8 (v : Nat) : bmF mk8 v 0 = ((v / 65536 % 256 : Nat) : Int) * 257 ∧ bmF mk8 v 1 = ((v / 256 % 256 : Nat) : Int) * 257 ∧ bmF mk8 v 2 = ((v % 256 : Nat) : Int) * 257 ∧ bmF mk8 v 3 = ((v / 16777216 % 256 : Nat) : Int) * 257 := by
  have r0 : runM (mk8 0) = (16, 8, true) := by decide +kernel
  have r1 : runM (mk8 1) = (8, 8, true) := by decide +kernel
  have r2 : runM (mk8 2) = (0, 8, true) := by decide +kernel
  have r3 : runM (mk8 3) = (24, 8, true) := by decide +kernel
  have hm : ∀ x : Nat, x < 256 → maskV (x : Int) ((8 : Nat) : Int) = (x : Int) * 257 := fun x hx => by
    have hb : maskB (x : Int) ((8 : Nat) : Int) = true := by simp [maskB]; omega
    rw [maskV, hb]
    simp
    omega
  refine ⟨?_, ?_, ?_, ?_⟩
  · rw [bmF, r0]; simpa using hm _ (Nat.mod_lt (v / 65536) (show 0 < 256 by omega))
  · rw [bmF, r1]; simpa using hm _ (Nat.mod_lt (v / 256) (show 0 < 256 by omega))
  · rw [bmF, r2]; simpa using hm _ (Nat.mod_lt v (show 0 < 256 by omega))
  · rw [bmF, r3]; simpa using hm _ (Nat.mod_lt (v / 16777216) (show 0 < 256 by omega))
/-- Two pictures' pixels are the same from mid on, and i of them from lo on. -/
def Agr (ck c : Nat → Nat) (lo mid N i : Nat) : Prop := ∀ q, q < N → (mid ≤ q ∨ (lo ≤ q ∧ q < lo + i)) → ∀ j, j < 4 → ck (4 * q + j) = c (4 * q + j)
theorem Agr.lo {ck c : Nat → Nat} {lo lo' mid N : Nat} (h : Agr ck c lo mid N 0) : Agr ck c lo' mid N 0 := fun q hq h2 j hj => h q hq (h2.elim .inl (fun h3 => by omega)) j hj
theorem Agr.done {ck c : Nat → Nat} {lo N a : Nat} (h : Agr ck c lo (lo + a) N a) : Agr ck c lo lo N 0 := fun q hq h2 j hj => h q hq (by omega) j hj
theorem Agr.set {ck c : Nat → Nat} {lo mid N i q : Nat} {p : P4} (h : Agr ck c lo mid N i) (hq : q = lo + i) (h0 : p.1 = c (4 * q)) (h1 : p.2.1 = c (4 * q + 1)) (h2 : p.2.2.1 = c (4 * q + 2)) (h3 : p.2.2.2 = c (4 * q + 3)) : Agr (setC ck q p) c lo mid N (i + 1) := fun u hu hc j hj => by
  unfold setC
  by_cases hE : u = q
  · subst hE
    have hj4 : j = 0 ∨ j = 1 ∨ j = 2 ∨ j = 3 := by omega
    rcases hj4 with rfl | rfl | rfl | rfl
    · rw [if_pos (by omega)]; exact h0
    · rw [if_neg (by omega), if_pos (by omega)]; exact h1
    · rw [if_neg (by omega), if_neg (by omega), if_pos (by omega)]; exact h2
    · rw [if_neg (by omega), if_neg (by omega), if_neg (by omega), if_pos (by omega)]; exact h3
  · rw [if_neg (by omega), if_neg (by omega), if_neg (by omega), if_neg (by omega)]
    exact h u hu (by omega) j hj
set_option maxRecDepth 100000 in
set_option maxHeartbeats 4000000 in
theorem bmp_ref (gt : Bool) (A : Option Addr) (m cap : Nat) (d c : Nat → Nat) (a b N : Nat) (h : HeadD d (sizeH gt) a b (bitsH gt) (kindH gt)) (hk : gt = true → MaskD d) (hab : a * b = N) (hm : m = 14 + sizeH gt + wideH gt a * b ∧ m ≤ 262144) (hmc : m ≤ cap) (hcap : cap ≤ maxLen) (ha : 1 ≤ a ∧ a ≤ 256) (hb : 1 ≤ b ∧ b ≤ 256) (hz : sizeE a b = 0)
    (hpx : ∀ k x, k < b → x < a → PixD gt d c (14 + sizeH gt + k * wideH gt a + partsH gt * x) ((b - 1 - k) * a + x)) (w : World) (hB : Byt w A m d) :
    Calls Tryd.prog 8 #[.slice A m cap] w fun e w' => ∃ A' cap', e = .returned (.tuple #[.agg #[.int .i64 a, .int .i64 b, .slice A' (4 * N) cap'], .int .i64 0]) ∧ 4 * N ≤ cap' ∧ cap' ≤ maxLen ∧ Pix w' A' (4 * N) c ∧ Below w.heap.size w w' := by
  obtain ⟨hw1, hw2, hw3, hw4, hw5⟩ := wide_bd gt a ha.2
  obtain ⟨bk, off, rfl, hbl, hcl⟩ := hB (by omega)
  have hBX := Lib.hid ((Below.refl _ w).alloc (Nat.le_refl _) (.cells #[.int .i64 0, .int .i64 0, .slice none 0 0] 24))
  have HRB := Lib.hid (hp_new0 w (.cells #[.int .i64 0, .int .i64 0, .slice none 0 0] 24))
  have HBY := Lib.hid (hB.below hBX.out)
  have HH := Lib.hid h
  have HPX := Lib.hid hpx
  have HK := Lib.hid hk
  have HMM := Lib.hid hm
  have HCP := Lib.hid hcap
  unfold maxLen at hcap
  have hlw : w.heap.size < (w.alloc (.cells #[.int .i64 0, .int .i64 0, .slice none 0 0] 24)).heap.size := lt_heap HRB.out
  clear h hk hpx hm
  go_enter Tryd.func8, Tryd.ntmps8
  go_wp2_with fail
  generalize w.alloc (.cells #[.int .i64 0, .int .i64 0, .slice none 0 0] 24) = W1 at *
  clear hB hcl
  refine (info_any gt _ m cap d a b HH.out HK.out ⟨by rw [HMM.out.1]; omega, HMM.out.2⟩ hmc HCP.out ha hb hz _ HBY.out).mono ?_
  rintro e w2 ⟨rfl, hB2⟩
  obtain ⟨bits, hbits⟩ : ∃ bits, bits = bitsH gt := ⟨_, rfl⟩
  obtain ⟨kind, hkind⟩ : ∃ kind, kind = kindH gt := ⟨_, rfl⟩
  obtain ⟨o, ho⟩ : ∃ o, o = 14 + sizeH gt := ⟨_, rfl⟩
  obtain ⟨mk, hmk⟩ : ∃ mk, mk = mkG gt := ⟨_, rfl⟩
  rw [← hbits, ← hkind, ← ho, ← hmk]
  unfold infoV
  obtain ⟨I, hI⟩ : ∃ I, I = Obj.cells #[.int .i64 a, .int .i64 b, .int .i64 bits, .int .i64 kind, .int .i64 o, .bool false, .int .u32 (mk 0), .int .u32 (mk 1), .int .u32 (mk 2), .int .u32 (mk 3), .slice none 0 0] 57 := ⟨_, rfl⟩
  have hal : Below w2.heap.size w2 (w2.alloc I) := (Below.refl _ w2).alloc (Nat.le_refl _) _
  have HIB := Lib.hid (hp_new0 w2 I)
  have HB3 := Lib.hid ((hBX.out.trans (hB2.mono hBX.out.size)).trans (hal.mono (by have := hBX.out.size; have := hB2.size; omega)))
  have HBY3 := Lib.hid ((HBY.out.below hB2).below hal)
  have HRB3 := Lib.hid (hp_below (hp_below HRB.out hB2 hlw) hal (by have := hB2.size; omega))
  have hlx : w.heap.size < w2.heap.size := by have := hB2.size; omega
  clear hB2 hal HBY HRB
  rw [hI] at HIB HB3 HBY3 HRB3
  have e0 := hp_cell (j := 0) HIB.out rfl
  have e1 := hp_cell (j := 1) HIB.out rfl
  have e2 := hp_cell (j := 2) HIB.out rfl
  have e3 := hp_cell (j := 3) HIB.out rfl
  have e4 := hp_cell (j := 4) HIB.out rfl
  have q1 : ((kind : Int) == 1) = false := by rw [hkind]; cases gt <;> rfl
  have q2 : ((kind : Int) == 2) = false := by rw [hkind]; cases gt <;> rfl
  have hoi : o ≤ 122 := by rw [ho]; omega
  obtain ⟨W, hW⟩ : ∃ W, W = wideH gt a := ⟨_, rfl⟩
  rw [← hW] at hw1 hw2
  obtain ⟨M1, hM1⟩ : ∃ M1, M1 = a * bits := ⟨_, rfl⟩
  have hM1b : M1 ≤ 256 * 32 := by rw [hM1, hbits]; exact Nat.mul_le_mul ha.2 hw3
  have hMI : (a : Int) * (bits : Int) = (M1 : Int) := by rw [hM1]; simp
  obtain ⟨W4, hW4⟩ : ∃ W4, W4 = (M1 + 31) / 32 := ⟨_, rfl⟩
  have hr1 : ((M1 : Int) + 31) / 32 = (W4 : Int) := by omega
  have hWe : W = W4 * 4 := by rw [hW, wideH, ← hbits, ← hM1, hW4]
  have hr2 : (W4 : Int) * 4 = (W : Int) := by omega
  have hW4b : W4 ≤ 1000 := by omega
  obtain ⟨T, hT⟩ : ∃ T, T = W * b := ⟨_, rfl⟩
  have hTb : T ≤ 2000 * 256 := by rw [hT]; exact Nat.mul_le_mul hw1 hb.2
  have hTI : (W : Int) * (b : Int) = (T : Int) := by rw [hT]; simp
  have hmT : m = o + T := by rw [HMM.out.1, ho, hT, hW]
  have hml : ¬ ((m : Int) - (o : Int)) < (T : Int) := by omega
  have HWe := Lib.hid hW
  have HT := Lib.hid hT
  have HO := Lib.hid ho
  have HBI := Lib.hid hbits
  have HMKe := Lib.hid hmk
  have hom : o ≤ m := by omega
  clear hM1 hW4 hWe hW hw3 hT ho hkind hbits hmk
  have hP3 : 3 ≤ partsH gt := by unfold partsH; split <;> omega
  have hW3 : 3 ≤ W := by
    have : partsH gt * 1 ≤ partsH gt * a := Nat.mul_le_mul_left _ ha.1
    omega
  have hT3 : 3 ≤ T := by
    have : W * 1 ≤ W * b := Nat.mul_le_mul_left _ hb.1
    rw [HT.out]
    omega
  have hcko : ¬cap = o := by omega
  go_wp2_with fail
  clear e0 e1 e2 e3 e4 hmT
  obtain ⟨xb, hxb⟩ : ∃ xb, xb = w2.heap.size := ⟨_, rfl⟩
  have hxs : (w2.alloc (.cells #[.int .i64 a, .int .i64 b, .int .i64 bits, .int .i64 kind, .int .i64 o, .bool false, .int .u32 (mk 0), .int .u32 (mk 1), .int .u32 (mk 2), .int .u32 (mk 3), .slice none 0 0] 57)).heap.size = xb + 1 := by rw [World.size_alloc, hxb]
  generalize w2.alloc (.cells #[.int .i64 a, .int .i64 b, .int .i64 bits, .int .i64 kind, .int .i64 o, .bool false, .int .u32 (mk 0), .int .u32 (mk 1), .int .u32 (mk 2), .int .u32 (mk 3), .slice none 0 0] 57) = wI at *
  rw [← hxb] at HIB hlx ⊢
  clear hxb
  refine (new_ref a b (by unfold In64; omega) (by unfold In64; omega) _).mono ?_
  rintro e w3 ⟨hB, ⟨_, v, rfl, hown⟩ | ⟨h, _⟩⟩
  rotate_left
  · exact absurd hz h
  have h4N : (4 * (a : Int) * (b : Int)).toNat = 4 * N := by
    rw [← hab, Int.mul_assoc]
    omega
  have hN1 : 1 ≤ N := by
    have : 1 * 1 ≤ a * b := Nat.mul_le_mul ha.1 hb.1
    omega
  obtain ⟨n4, hn4⟩ : ∃ n4, n4 = 4 * N := ⟨_, rfl⟩
  rw [h4N, ← hn4, zeros_16, hxs] at hown
  obtain ⟨A', cap', rfl, hn', hc', _, hO⟩ := NewRow.of_row hown
  rw [hxs] at hB
  have HB4 := Lib.hid hB
  have HO4 := Lib.hid (hO.le (Nat.le_succ _))
  have hs3 : xb + 1 ≤ w3.heap.size := by have := hB.size; omega
  have hAr : ∀ k, A' = some ⟨k, 0, none⟩ → k < w3.heap.size := fun k hk => (hO.lt k (by omega) hk).2
  have hn40 : 0 < n4 := by omega
  have HN4 := Lib.hid hn4
  clear hown hB hO h4N hn4
  go_wp2_with fail
  have hal : Below w3.heap.size w3 (w3.alloc (.cells #[.int .i64 a, .int .i64 b, .slice A' n4 cap'] 24)) := (Below.refl _ w3).alloc (Nat.le_refl _) _
  have HR4 := Lib.hid (hp_new0 w3 (.cells #[.int .i64 a, .int .i64 b, .slice A' n4 cap'] 24))
  have HB5 := Lib.hid (HB4.out.trans (hal.mono hs3))
  have HO5 := Lib.hid (HO4.out.below hal)
  clear hal HB4 HO4
  generalize w3.alloc (.cells #[.int .i64 a, .int .i64 b, .slice A' n4 cap'] 24) = w5 at *
  obtain ⟨rb, hrb⟩ : ∃ rb, rb = w3.heap.size := ⟨_, rfl⟩
  rw [← hrb] at HR4 hAr hs3 ⊢
  clear hrb
  have HNE := Lib.hid (show ∀ k, 0 < n4 → A' = some ⟨k, 0, none⟩ → k ≠ rb from fun k _ hk => Nat.ne_of_lt (hAr k hk))
  clear hAr
  go_loopw [10] (fun x wr => ∃ (k : Nat) (ck : Nat → Nat), k ≤ b ∧ x = .int .i64 (k : Nat) ∧ Below (xb + 1) wI wr ∧ wr.heap[rb]? = some (.cells #[.int .i64 a, .int .i64 b, .slice A' n4 cap'] 24 (0, 0)) ∧ Own (xb + 1) wr A' n4 ck ∧ Agr ck c ((b - k) * a) ((b - k) * a) N 0) (fun x _ => b - (intOf x).toNat)
  case atStart => exact ⟨0, _, by omega, rfl, HB5.out, HR4.out, HO5.out, fun q hq h => by rw [Nat.sub_zero, Nat.mul_comm, hab] at h; omega⟩
  case round =>
    obtain ⟨k, ck, hk, rfl, hB, hR, hO, hA⟩ := hrel
    have hIr := hp_below HIB.out (hB.mono (Nat.le_refl _)) (by omega)
    by_cases hlt : k < b
    · obtain ⟨y, hy⟩ : ∃ y, y = b - 1 - k := ⟨_, rfl⟩
      have hyI : (b : Int) - 1 - (k : Int) = (y : Int) := by omega
      obtain ⟨lo, hlo⟩ : ∃ lo, lo = y * a := ⟨_, rfl⟩
      have hmid : (b - k) * a = lo + a := by rw [hlo, show b - k = y + 1 by omega, Nat.add_mul, Nat.one_mul]
      obtain ⟨p1, hp1⟩ : ∃ p1, p1 = k * W := ⟨_, rfl⟩
      have hp2 : (k + 1) * W = p1 + W := by rw [Nat.add_mul, Nat.one_mul, hp1]
      have hpT : p1 + W ≤ T := by rw [← hp2, HT.out, Nat.mul_comm W b]; exact Nat.mul_le_mul_right W (by omega)
      have i1 : (k : Int) * (W : Int) = (p1 : Int) := by rw [hp1]; simp
      have i2 : ((k : Int) + 1) * (W : Int) = ((p1 + W : Nat) : Int) := by rw [← hp2]; simp
      have i3 : (((p1 + W : Nat) : Int) - (p1 : Int)).toNat = W := by omega
      have i4 : p1 + W - p1 = W := by omega
      rw [hmid] at hA
      have HA := Lib.hid (hA.lo (lo' := lo))
      have e0 := hp_cell (j := 0) hIr rfl
      have e1 := hp_cell (j := 1) hIr rfl
      have e5 := hp_cell (j := 5) hIr rfl
      have HY := Lib.hid hy
      have HLO := Lib.hid hlo
      have HP1 := Lib.hid hp1
      have HMID := Lib.hid hmid
      have HB6 := Lib.hid hB
      have HR6 := Lib.hid hR
      have HO6 := Lib.hid hO
      have HI6 := Lib.hid hIr
      have hkx : cap - o - p1 ≠ 0 := by omega
      have hcp1 : ¬cap - o = p1 := by omega
      clear hy hlo hp1 hmid hp2 hA hB hR hO hIr
      go_wp2_with fail
      rw [i4]
      clear i1 i2 i3 i4 e0 e1 e5
      go_loopw [13] (fun x wx => ∃ (i : Nat) (ck : Nat → Nat), i ≤ a ∧ x = .int .i64 (i : Nat) ∧ Below (xb + 1) wI wx ∧ wx.heap[rb]? = some (.cells #[.int .i64 a, .int .i64 b, .slice A' n4 cap'] 24 (0, 0)) ∧ Own (xb + 1) wx A' n4 ck ∧ Agr ck c lo (lo + a) N i) (fun x _ => a - (intOf x).toNat)
      case atStart => exact ⟨0, ck, by omega, rfl, HB6.out, HR6.out, HO6.out, HA.out⟩
      case round =>
        obtain ⟨i, ck2, hia, rfl, hB, hR, hO, hA⟩ := hrel
        by_cases hlt2 : i < a
        · have hIr := hp_below HIB.out (hB.mono (Nat.le_refl _)) (by omega)
          have e0 := hp_cell (j := 0) hIr rfl
          have hal : Below wr.heap.size wr (wr.alloc (.cells #[.int .u16 0, .int .u16 0, .int .u16 0, .int .u16 0] 45)) := (Below.refl _ wr).alloc (Nat.le_refl _) _
          have hB7 : Below (xb + 1) wI (wr.alloc (.cells #[.int .u16 0, .int .u16 0, .int .u16 0, .int .u16 0] 45)) := hB.alloc (by have := hB.size; omega) _
          have hR7 := hp_below hR hal (lt_heap hR)
          have hO7 := hO.below hal
          have hP7 := hp_new0 wr (.cells #[.int .u16 0, .int .u16 0, .int .u16 0, .int .u16 0] 45)
          have hY7 := HBY3.out.below (hB7.mono (by omega))
          have hI7 := hp_below HIB.out hB7 (by omega)
          have f2 := hp_cell (j := 2) hI7 rfl
          have hpx := HPX.out k i hlt hlt2
          rw [← HO.out, ← HWe.out, ← HP1.out, ← HY.out, ← HLO.out] at hpx
          have hrx : rb < wr.heap.size := lt_heap hR
          have HPF := Lib.hid (show ∀ k, A' = some ⟨k, 0, none⟩ → k ≠ wr.heap.size from fun k hk => Nat.ne_of_lt (hO.lt k hn40 hk).2)
          have HB7 := Lib.hid hB7
          have HR7 := Lib.hid hR7
          have HO7 := Lib.hid hO7
          have HP7 := Lib.hid hP7
          have HI7 := Lib.hid hI7
          have HY7 := Lib.hid hY7
          have HA7 := Lib.hid hA
          clear hIr hal hB7 hR7 hO7 hP7 hY7 hI7 hB hR hO hA
          cases gt with
          | false =>
            have hPi : 3 * i + 3 ≤ W := by
              have h1 : partsH false * (i + 1) ≤ partsH false * a := Nat.mul_le_mul_left _ hlt2
              have h2 : partsH false = 3 := rfl
              rw [h2] at h1 hw2
              omega
            have b16 : ((bits : Int) == 16) = false := by rw [HBI.out]; rfl
            have b24 : ((bits : Int) == 24) = true := by rw [HBI.out]; rfl
            obtain ⟨s3, hs3e⟩ : ∃ s3, s3 = 3 * i := ⟨_, rfl⟩
            have g1 : (3 : Int) * (i : Int) = (s3 : Int) := by omega
            rw [show partsH false * i = s3 from hs3e.symm] at hpx
            obtain ⟨v0, v1, v2, v3⟩ := hpx
            obtain ⟨bk', off', hbe, _, hcl⟩ := HY7.out (by omega)
            cases hbe
            have hsW : s3 + 3 ≤ W := by omega
            have c0 := hcl (o + p1 + s3) (by omega)
            have c1 := hcl (o + p1 + s3 + 1) (by omega)
            have c2 := hcl (o + p1 + s3 + 2) (by omega)
            have b0 := HH.out.lt (o + p1 + s3)
            have b1 := HH.out.lt (o + p1 + s3 + 1)
            have b2 := HH.out.lt (o + p1 + s3 + 2)
            obtain ⟨x0, hx0⟩ : ∃ x, x = d (o + p1 + s3) := ⟨_, rfl⟩
            obtain ⟨x1, hx1⟩ : ∃ x, x = d (o + p1 + s3 + 1) := ⟨_, rfl⟩
            obtain ⟨x2, hx2⟩ : ∃ x, x = d (o + p1 + s3 + 2) := ⟨_, rfl⟩
            rw [← hx0] at c0 b0 v0
            rw [← hx1] at c1 b1 v1
            rw [← hx2] at c2 b2 v2
            rw [← Nat.add_assoc, ← Nat.add_assoc] at c0
            rw [show off + (o + p1 + s3 + 1) = off + o + p1 + (s3 + 1) by omega] at c1
            rw [show off + (o + p1 + s3 + 2) = off + o + p1 + (s3 + 2) by omega] at c2
            have w0 : IntKind.i64.wrap (s3 : Int) = (s3 : Int) := IntWalk.i64_in _ (by omega)
            have w1 : IntKind.i64.wrap ((s3 : Int) + 1) = (s3 : Int) + 1 := IntWalk.i64_in _ (by omega)
            have w2 : IntKind.i64.wrap ((s3 : Int) + 2) = (s3 : Int) + 2 := IntWalk.i64_in _ (by omega)
            have l0 : (s3 : Int) < (W : Int) := by omega
            have l1 : (s3 : Int) + 1 < (W : Int) := by omega
            have l2 : (s3 : Int) + 2 < (W : Int) := by omega
            have g2 : (0 : Int) ≤ (s3 : Int) + 1 := by omega
            have g3 : (0 : Int) ≤ (s3 : Int) + 2 := by omega
            have t1 : ((s3 : Int) + 1).toNat = s3 + 1 := by omega
            have t2 : ((s3 : Int) + 2).toNat = s3 + 2 := by omega
            have m0 : IntKind.u16.wrap ((x0 : Int) * 257) = (x0 : Int) * 257 := by rw [IntKind.wrap_u16]; omega
            have m1 : IntKind.u16.wrap ((x1 : Int) * 257) = (x1 : Int) * 257 := by rw [IntKind.wrap_u16]; omega
            have m2 : IntKind.u16.wrap ((x2 : Int) * 257) = (x2 : Int) * 257 := by rw [IntKind.wrap_u16]; omega
            have V0 := Lib.hid v0
            have V1 := Lib.hid v1
            have V2 := Lib.hid v2
            have V3 := Lib.hid v3
            clear hcl v0 v1 v2 v3 hx0 hx1 hx2 hs3e hPi
            go_wp2_with fail
            generalize wr.alloc (.cells #[.int .u16 0, .int .u16 0, .int .u16 0, .int .u16 0] 45) = wz at *
            obtain ⟨pb, hpb⟩ : ∃ pb, pb = wr.heap.size := ⟨_, rfl⟩
            rw [← hpb] at HP7 hrx HPF ⊢
            clear hpb
            go_still_tail 24, (by kernel_rfl)
            change wpList _ _ _ _ _ wz.drew
            have z0 := hp_cell (j := 0) (hp_drew HP7.out) rfl
            have z1 := hp_cell (j := 1) (hp_drew HP7.out) rfl
            have z2 := hp_cell (j := 2) (hp_drew HP7.out) rfl
            have z3 := hp_cell (j := 3) (hp_drew HP7.out) rfl
            have zf := hp_froz (hp_drew HP7.out)
            have y0 := hp_cell (j := 0) HP7.out rfl
            have y1 := hp_cell (j := 1) HP7.out rfl
            have y2 := hp_cell (j := 2) HP7.out rfl
            have y3 := hp_cell (j := 3) HP7.out rfl
            have yf := hp_froz HP7.out
            clear c0 c1 c2 w0 w1 w2 l0 l1 l2 g1 g2 g3 t1 t2
            obtain ⟨r0, hr0⟩ : ∃ r, r = c (4 * (lo + i)) := ⟨_, rfl⟩
            obtain ⟨r1, hr1⟩ : ∃ r, r = c (4 * (lo + i) + 1) := ⟨_, rfl⟩
            obtain ⟨r2, hr2⟩ : ∃ r, r = c (4 * (lo + i) + 2) := ⟨_, rfl⟩
            obtain ⟨r3, hr3⟩ : ∃ r, r = c (4 * (lo + i) + 3) := ⟨_, rfl⟩
            have a0 : (x2 : Int) * 257 = (r0 : Int) := by have := V2.out; rw [hr0]; omega
            have a1 : (x1 : Int) * 257 = (r1 : Int) := by have := V1.out; rw [hr1]; omega
            have a2 : (x0 : Int) * 257 = (r2 : Int) := by have := V0.out; rw [hr2]; omega
            have a3 : (65535 : Int) = (r3 : Int) := by have h : c (4 * (lo + i) + 3) = 65535 := V3.out; rw [hr3, h]; rfl
            have R0 := Lib.hid hr0
            have R1 := Lib.hid hr1
            have R2 := Lib.hid hr2
            have R3 := Lib.hid hr3
            have hPz : pb < wz.heap.size := lt_heap HP7.out
            have hPq := heap_set (i := 3) (x := .int .u16 65535) (heap_set (i := 2) (x := .int .u16 ((x0 : Int) * 257)) (heap_set (i := 1) (x := .int .u16 ((x1 : Int) * 257)) (heap_set (i := 0) (x := .int .u16 ((x2 : Int) * 257)) HP7.out)))
            have hCq : Chg [pb] wz (((((wz.setCell ⟨pb, 0, none⟩ (.int .u16 ((x2 : Int) * 257))).setCell ⟨pb, 1, none⟩ (.int .u16 ((x1 : Int) * 257))).setCell ⟨pb, 2, none⟩ (.int .u16 ((x0 : Int) * 257))).setCell ⟨pb, 3, none⟩ (.int .u16 65535)).drew) := (((((Chg.refl [pb] wz).set (.inl (by simp)) 0 _).set (.inl (by simp)) 1 _).set (.inl (by simp)) 2 _).set (.inl (by simp)) 3 _).drew
            have HPq : Hid ((((((wz.setCell ⟨pb, 0, none⟩ (.int .u16 ((x2 : Int) * 257))).setCell ⟨pb, 1, none⟩ (.int .u16 ((x1 : Int) * 257))).setCell ⟨pb, 2, none⟩ (.int .u16 ((x0 : Int) * 257))).setCell ⟨pb, 3, none⟩ (.int .u16 65535)).drew).heap[pb]? = some (.cells #[.int .u16 (r0 : Nat), .int .u16 (r1 : Nat), .int .u16 (r2 : Nat), .int .u16 (r3 : Nat)] 45 (0, 0))) := Lib.hid (by rw [← a0, ← a1, ← a2, ← a3]; exact hPq)
            have HBq := Lib.hid (HB7.out.trans (hCq.below (B := xb + 1) (by have := HB7.out.size; omega) (fun k hk => by simp at hk; omega)))
            have HRq := Lib.hid (hp_chg HR7.out hCq (by simp; omega))
            have HOq : Hid (Own (xb + 1) (((((wz.setCell ⟨pb, 0, none⟩ (.int .u16 ((x2 : Int) * 257))).setCell ⟨pb, 1, none⟩ (.int .u16 ((x1 : Int) * 257))).setCell ⟨pb, 2, none⟩ (.int .u16 ((x0 : Int) * 257))).setCell ⟨pb, 3, none⟩ (.int .u16 65535)).drew) A' n4 ck2) := Lib.hid (HO7.out.frame (m := 1) (A' := some ⟨pb, 0, none⟩) (fun g o hg hne => hp_chg hg hCq (by simp; exact fun e => hne pb (by omega) rfl e.symm)) (fun g k hA _ _ hk => by
              cases hk
              exact fun h => HPF.out g hA h.symm))
            clear hr0 hr1 hr2 hr3 a0 a1 a2 a3 hPq hCq
            go_upto_region 34 with fail
            generalize (((((wz.setCell ⟨pb, 0, none⟩ (.int .u16 ((x2 : Int) * 257))).setCell ⟨pb, 1, none⟩ (.int .u16 ((x1 : Int) * 257))).setCell ⟨pb, 2, none⟩ (.int .u16 ((x0 : Int) * 257))).setCell ⟨pb, 3, none⟩ (.int .u16 65535)).drew) = wq at *
            clear z0 z1 z2 z3 zf y0 y1 y2 y3 yf hPz
            have HIN : Hid (inB a b n4 i y = true) := Lib.hid (inB_xy (by rw [mayB, decide_eq_true_eq]; exact ⟨hz, by rw [HN4.out, ← hab, Int.mul_assoc]; simp⟩) hlt2 (by have := HY.out; omega))
            have hset : setD a b n4 ck2 i y (r0, r1, r2, r3) = setC ck2 (lo + i) (r0, r1, r2, r3) := by
              unfold setD
              rw [if_pos HIN.out, HLO.out]
              congr 1
            have HSET := Lib.hid hset
            have HAG := Lib.hid (HA7.out.set (p := (r0, r1, r2, r3)) rfl R0.out R1.out R2.out R3.out)
            have k0 := hp_cell (j := 0) HRq.out rfl
            have k1 := hp_cell (j := 1) HRq.out rfl
            have k2 := hp_cell (j := 2) HRq.out rfl
            have s0 := hp_cell (j := 0) HPq.out rfl
            have s1 := hp_cell (j := 1) HPq.out rfl
            have s2 := hp_cell (j := 2) HPq.out rfl
            have s3' := hp_cell (j := 3) HPq.out rfl
            clear hset
            go_wp2_with fail
            refine (setr_any a b A' n4 cap' ck2 i y (r0, r1, r2, r3) (by unfold In64; omega) (by unfold In64; omega) hn' hc' _ HOq.out).mono ?_
            rintro e w8 ⟨rfl, h1, h2, h3⟩
            have hszq := HBq.out.size
            have HB8 := Lib.hid (HBq.out.trans (h1 (by omega)))
            have HR8 := Lib.hid (h2 rb _ HRq.out (fun k hn hA => HNE.out k hn hA))
            rw [HSET.out] at h3
            have HO8 := Lib.hid h3
            clear h1 h2 h3
            go_wp2_with fail
            go_roundw
            case rel => exact ⟨i + 1, _, hlt2, by go_num, HB8.out, HR8.out, HO8.out, HAG.out⟩
            case measure => simp [intOf]; omega
          | true =>
            have hPi : 4 * i + 4 ≤ W := by
              have h1 : partsH true * (i + 1) ≤ partsH true * a := Nat.mul_le_mul_left _ hlt2
              have h2 : partsH true = 4 := rfl
              rw [h2] at h1 hw2
              omega
            have b16 : ((bits : Int) == 16) = false := by rw [HBI.out]; rfl
            have b24 : ((bits : Int) == 24) = false := by rw [HBI.out]; rfl
            have b32 : ((bits : Int) == 32) = true := by rw [HBI.out]; rfl
            obtain ⟨s4, hs4e⟩ : ∃ s4, s4 = 4 * i := ⟨_, rfl⟩
            have g1 : (4 : Int) * (i : Int) = (s4 : Int) := by omega
            rw [show partsH true * i = s4 from hs4e.symm] at hpx
            obtain ⟨v0, v1, v2, v3⟩ := hpx
            have w0 : IntKind.i64.wrap (s4 : Int) = (s4 : Int) := IntWalk.i64_in _ (by omega)
            have hlv := low4 HH.out.lt (o + p1 + s4)
            have V0 := Lib.hid v0
            have V1 := Lib.hid v1
            have V2 := Lib.hid v2
            have V3 := Lib.hid v3
            have hs4W : s4 + 4 ≤ W := by omega
            have hYr : Byt (wr.alloc (.cells #[.int .u16 0, .int .u16 0, .int .u16 0, .int .u16 0] 45)).drew (some ⟨bk, off + o + p1, none⟩) W (fun j => d (o + p1 + j)) := fun _ => by
              obtain ⟨bk', off', hbe, hb9, hcl⟩ := HY7.out (by omega)
              cases hbe
              refine ⟨bk, off + o + p1, rfl, hb9, fun j hj => ?_⟩
              have h := hcl (o + p1 + j) (by omega)
              rw [show off + (o + p1 + j) = off + o + p1 + j by omega] at h
              exact h
            obtain ⟨V, hV⟩ : ∃ V, V = lowD d (o + p1 + s4) 4 := ⟨_, rfl⟩
            have hV4 : V < 4294967296 := by rw [hV]; exact lowD_4 HH.out.lt _ 4 (by omega)
            have e9 : IntKind.u32.wrap (V : Int) = (V : Int) := IntWalk.u32_in _ (by omega)
            have hLow := low_ref (some ⟨bk, off + o + p1, none⟩) W (cap - o - p1) _ (fun j => HH.out.lt (o + p1 + j)) s4 4 (by omega) hs4W (by omega) (by have := HCP.out; omega) _ hYr
            rw [lowD_shift, ← hV] at hLow
            rw [← hV] at hlv
            have HLV := Lib.hid hlv
            have HLow := Lib.hid hLow
            have m6 := hp_cell (j := 6) (hp_drew HI7.out) rfl
            have m7 := hp_cell (j := 7) (hp_drew HI7.out) rfl
            have m8 := hp_cell (j := 8) (hp_drew HI7.out) rfl
            have m9 := hp_cell (j := 9) (hp_drew HI7.out) rfl
            clear hPi hs4e v0 v1 v2 v3 hlv hYr hV hLow
            go_wp2_with fail
            generalize wr.alloc (.cells #[.int .u16 0, .int .u16 0, .int .u16 0, .int .u16 0] 45) = wz at *
            obtain ⟨pb, hpb⟩ : ∃ pb, pb = wr.heap.size := ⟨_, rfl⟩
            rw [← hpb] at HP7 hrx HPF ⊢
            clear hpb
            go_still_tail 7, (by kernel_rfl)
            still_call HLow.out
            repeat still_step
            refine wpStill_nil ?_
            change wpList _ _ _ _ _ wz.drew
            go_wp2_with fail
            refine (byMasks_ref mk (fun j => by rw [HMKe.out]; exact mkG_lt true j) V hV4 _).mono ?_
            rintro e w9 ⟨rfl, hB9⟩
            obtain ⟨r0, hr0⟩ : ∃ r, r = c (4 * (lo + i)) := ⟨_, rfl⟩
            obtain ⟨r1, hr1⟩ : ∃ r, r = c (4 * (lo + i) + 1) := ⟨_, rfl⟩
            obtain ⟨r2, hr2⟩ : ∃ r, r = c (4 * (lo + i) + 2) := ⟨_, rfl⟩
            obtain ⟨r3, hr3⟩ : ∃ r, r = c (4 * (lo + i) + 3) := ⟨_, rfl⟩
            have hbv : bmV mk V = .agg #[.int .u16 (r0 : Nat), .int .u16 (r1 : Nat), .int .u16 (r2 : Nat), .int .u16 (r3 : Nat)] := by
              have hmk8 : mk = mk8 := HMKe.out
              obtain ⟨u0, u1, u2, u3⟩ := bm8 V
              obtain ⟨l0, l1, l2, l3⟩ := HLV.out
              have n0 := V0.out
              have n1 := V1.out
              have n2 := V2.out
              have n3 : d (o + p1 + s4 + 3) * 257 = c (4 * (lo + i) + 3) := V3.out
              rw [bmV, hmk8, u0, u1, u2, u3, l0, l1, l2, l3, hr0, hr1, hr2, hr3, ← n0, ← n1, ← n2, ← n3]
              simp
            rw [hbv]
            have R0 := Lib.hid hr0
            have R1 := Lib.hid hr1
            have R2 := Lib.hid hr2
            have R3 := Lib.hid hr3
            have hP9 := hp_below (hp_drew HP7.out) hB9 (lt_heap (hp_drew HP7.out))
            have hPz : pb < w9.heap.size := lt_heap hP9
            have hPq := heap_set (i := 3) (x := .int .u16 (r3 : Nat)) (heap_set (i := 2) (x := .int .u16 (r2 : Nat)) (heap_set (i := 1) (x := .int .u16 (r1 : Nat)) (heap_set (i := 0) (x := .int .u16 (r0 : Nat)) hP9)))
            have hCz : Chg [pb] wz w9 := (((Chg.refl [] wz).drew).trans (Chg.of_below hB9)).mono (by simp)
            have hCq : Chg [pb] wz ((((w9.setCell ⟨pb, 0, none⟩ (.int .u16 (r0 : Nat))).setCell ⟨pb, 1, none⟩ (.int .u16 (r1 : Nat))).setCell ⟨pb, 2, none⟩ (.int .u16 (r2 : Nat))).setCell ⟨pb, 3, none⟩ (.int .u16 (r3 : Nat))) := (((hCz.set (.inl (by simp)) 0 _).set (.inl (by simp)) 1 _).set (.inl (by simp)) 2 _).set (.inl (by simp)) 3 _
            have HPq : Hid (((((w9.setCell ⟨pb, 0, none⟩ (.int .u16 (r0 : Nat))).setCell ⟨pb, 1, none⟩ (.int .u16 (r1 : Nat))).setCell ⟨pb, 2, none⟩ (.int .u16 (r2 : Nat))).setCell ⟨pb, 3, none⟩ (.int .u16 (r3 : Nat))).heap[pb]? = some (.cells #[.int .u16 (r0 : Nat), .int .u16 (r1 : Nat), .int .u16 (r2 : Nat), .int .u16 (r3 : Nat)] 45 (0, 0))) := Lib.hid hPq
            have HBq := Lib.hid (HB7.out.trans (hCq.below (B := xb + 1) (by have := HB7.out.size; omega) (fun k hk => by simp at hk; omega)))
            have HRq := Lib.hid (hp_chg HR7.out hCq (by simp; omega))
            have HOq : Hid (Own (xb + 1) ((((w9.setCell ⟨pb, 0, none⟩ (.int .u16 (r0 : Nat))).setCell ⟨pb, 1, none⟩ (.int .u16 (r1 : Nat))).setCell ⟨pb, 2, none⟩ (.int .u16 (r2 : Nat))).setCell ⟨pb, 3, none⟩ (.int .u16 (r3 : Nat))) A' n4 ck2) := Lib.hid (HO7.out.frame (m := 1) (A' := some ⟨pb, 0, none⟩) (fun g o hg hne => hp_chg hg hCq (by simp; exact fun e => hne pb (by omega) rfl e.symm)) (fun g k hA _ _ hk => by
              cases hk
              exact fun h => HPF.out g hA h.symm))
            have y0 := hp_cell (j := 0) hP9 rfl
            have y1 := hp_cell (j := 1) hP9 rfl
            have y2 := hp_cell (j := 2) hP9 rfl
            have y3 := hp_cell (j := 3) hP9 rfl
            have yf := hp_froz hP9
            clear hr0 hr1 hr2 hr3 hPq hCq hCz hB9 hbv hP9 m6 m7 m8 m9 w0 g1
            go_upto_region 34 with fail
            generalize ((((w9.setCell ⟨pb, 0, none⟩ (.int .u16 (r0 : Nat))).setCell ⟨pb, 1, none⟩ (.int .u16 (r1 : Nat))).setCell ⟨pb, 2, none⟩ (.int .u16 (r2 : Nat))).setCell ⟨pb, 3, none⟩ (.int .u16 (r3 : Nat))) = wq at *
            clear y0 y1 y2 y3 yf hPz
            have HIN : Hid (inB a b n4 i y = true) := Lib.hid (inB_xy (by rw [mayB, decide_eq_true_eq]; exact ⟨hz, by rw [HN4.out, ← hab, Int.mul_assoc]; simp⟩) hlt2 (by have := HY.out; omega))
            have hset : setD a b n4 ck2 i y (r0, r1, r2, r3) = setC ck2 (lo + i) (r0, r1, r2, r3) := by
              unfold setD
              rw [if_pos HIN.out, HLO.out]
              congr 1
            have HSET := Lib.hid hset
            have HAG := Lib.hid (HA7.out.set (p := (r0, r1, r2, r3)) rfl R0.out R1.out R2.out R3.out)
            have k0 := hp_cell (j := 0) HRq.out rfl
            have k1 := hp_cell (j := 1) HRq.out rfl
            have k2 := hp_cell (j := 2) HRq.out rfl
            have s0 := hp_cell (j := 0) HPq.out rfl
            have s1 := hp_cell (j := 1) HPq.out rfl
            have s2 := hp_cell (j := 2) HPq.out rfl
            have s3' := hp_cell (j := 3) HPq.out rfl
            clear hset
            go_wp2_with fail
            refine (setr_any a b A' n4 cap' ck2 i y (r0, r1, r2, r3) (by unfold In64; omega) (by unfold In64; omega) hn' hc' _ HOq.out).mono ?_
            rintro e w8 ⟨rfl, h1, h2, h3⟩
            have hszq := HBq.out.size
            have HB8 := Lib.hid (HBq.out.trans (h1 (by omega)))
            have HR8 := Lib.hid (h2 rb _ HRq.out (fun k hn hA => HNE.out k hn hA))
            rw [HSET.out] at h3
            have HO8 := Lib.hid h3
            clear h1 h2 h3
            go_wp2_with fail
            go_roundw
            case rel => exact ⟨i + 1, _, hlt2, by go_num, HB8.out, HR8.out, HO8.out, HAG.out⟩
            case measure => simp [intOf]; omega
        · have HIA := Lib.hid (show i = a by omega)
          have hIr := hp_below HIB.out (hB.mono (Nat.le_refl _)) (by omega)
          have e0 := hp_cell (j := 0) hIr rfl
          have hdone : Agr ck2 c ((b - (k + 1)) * a) ((b - (k + 1)) * a) N 0 := by
            rw [HIA.out] at hA
            have h := hA.done
            rw [HLO.out, HY.out] at h
            rwa [show b - (k + 1) = b - 1 - k by omega]
          have HD := Lib.hid hdone
          have HB8 := Lib.hid hB
          have HR8 := Lib.hid hR
          have HO8 := Lib.hid hO
          clear hIr hB hR hO hA hdone
          go_wp2_with fail
          go_roundw
          case rel => exact ⟨k + 1, ck2, hlt, by go_num, HB8.out, HR8.out, HO8.out, HD.out⟩
          case measure => simp [intOf]; omega
    · have HKB := Lib.hid (show k = b by omega)
      have e1 := hp_cell (j := 1) hIr rfl
      have hR8 := hp_below HRB3.out hB (by omega)
      have r0 := hp_cell (j := 0) hR8 rfl
      have r1 := hp_cell (j := 1) hR8 rfl
      have r2 := hp_cell (j := 2) hR8 rfl
      have rf := hp_froz hR8
      have k0 := hp_cell (j := 0) hR rfl
      have k1 := hp_cell (j := 1) hR rfl
      have k2 := hp_cell (j := 2) hR rfl
      have hck : ∀ j, j < n4 → ck j = c j := fun j hj => by
        have h4 := hA (j / 4) (by have := HN4.out; omega) (.inl (by rw [HKB.out, Nat.sub_self, Nat.zero_mul]; exact Nat.zero_le _)) (j % 4) (Nat.mod_lt _ (by omega))
        rwa [Nat.div_add_mod] at h4
      have HCK := Lib.hid hck
      have HO9 := Lib.hid hO
      have HBF := Lib.hid (HB3.out.trans (hB.mono (by have := HB3.out.size; omega)))
      clear hIr hB hR hO hA hck hR8
      go_wp2_with fail
      refine bodyPost_ret (v := .tuple #[.agg #[.int .i64 a, .int .i64 b, .slice A' n4 cap'], .int .i64 0]) (by rw [results_cell_tmp rfl]; go_simp) rfl ?_
      refine ⟨A', cap', by rw [HN4.out], by rw [← HN4.out]; exact hn', hc', ?_, ?_⟩
      · rw [← HN4.out]
        exact pix_eq ((((HO9.out.set (g := w.heap.size) (by omega) 0 _).set (g := w.heap.size) (by omega) 1 _).set (g := w.heap.size) (by omega) 2 _).pix) HCK.out
      · exact ((HBF.out.setCell (p := ⟨w.heap.size, 0, none⟩) (by simp) _).setCell (p := ⟨w.heap.size, 1, none⟩) (by simp) _).setCell (p := ⟨w.heap.size, 2, none⟩) (by simp) _
end Go.Proofs.YthgafdbdmemkhaaDoor
