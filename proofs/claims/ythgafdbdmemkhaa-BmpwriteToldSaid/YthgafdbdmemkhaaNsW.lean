/- BmpwriteNoise: the walk. -/
import Derived.Test.YthgafdbdmemkhaaAw19
namespace Go.Proofs.Ythgafdbdmemkhaa
set_option linter.unusedVariables false
open Go.ChangeShapes Go.WideShapes Go.ChangeAt Go.RowKit

theorem sizeE_ok {a b : Nat} (ha : 1 ≤ a ∧ a ≤ 256) (hb : 1 ≤ b ∧ b ≤ 256) (h : a * b ≤ 16384) : sizeE a b = 0 := by
  have e : (a : Int) * (b : Int) = ((a * b : Nat) : Int) := by simp
  unfold sizeE
  have h2 : (a : Int) ≤ 16384 / (b : Int) := (Int.le_ediv_iff_mul_le (by omega)).2 (by omega)
  rw [if_neg (by omega), if_neg (by omega)]
theorem mayN {a b N : Nat} (hz : sizeE a b = 0) (hab : a * b = N) : mayB a b (4 * N) = true := by
  rw [mayB, decide_eq_true_eq]
  exact ⟨hz, by rw [← hab, Int.mul_assoc]; simp⟩
/-- Encode, and what the reference reads of it. -/
theorem enc_n4 (a b N n4 : Nat) (hn4 : n4 = 4 * N) (A : Option Addr) (cap : Nat) (c : Nat → Nat) (hc : ∀ i, c i < 65536) (hn : n4 ≤ cap) (hmax : cap ≤ maxLen) (hz : sizeE a b = 0) (hab : a * b = N) (ha : 1 ≤ a ∧ a ≤ 256) (hb : 1 ≤ b ∧ b ≤ 256) (hN : N ≤ 16384) (h257 : ∀ i, i < n4 → c i % 257 = 0) (w : World) (hP : Pix w A n4 c) :
    Calls Try.prog 7 #[.agg #[.int .i64 a, .int .i64 b, .slice A n4 cap]] w fun e w' => ∃ gb cap' m, e = .returned (.tuple #[.slice (some ⟨gb, 0, none⟩) m cap', .int .i64 0]) ∧ m ≤ 8 * N + 122 ∧ Below w.heap.size w w' ∧
      Calls Try.prog 8 #[.slice (some ⟨gb, 0, none⟩) m cap'] w' fun e w'' => ∃ A' cap2, e = .returned (.tuple #[.agg #[.int .i64 a, .int .i64 b, .slice A' n4 cap2], .int .i64 0]) ∧ n4 ≤ cap2 ∧ cap2 ≤ maxLen ∧ Pix w'' A' n4 c ∧ Below w'.heap.size w' w'' := by
  subst hn4
  have hm := mayN hz hab
  refine (enc_ok a b N A cap c hc hn hmax hm (fits_of hm h257) hab ha hb hN h257 w hP).mono ?_
  rintro e w' ⟨gb, cap', rfl, hOw, hB⟩
  exact ⟨gb, cap', _, rfl, (file_len_le _ c a b N ha hb.2 hab hN).1, hB, bmp_file _ gb cap' c hc a b N hab ha hb hN hz h257 rfl _ w' hOw⟩
set_option maxRecDepth 100000 in
set_option maxHeartbeats 4000000 in
theorem noise_walk (x y s : Nat) (hx : x < 256) (hy : y < 256) (hs : s < 4294967296) (w : World) :
    Calls Try.prog 3 #[.int .u8 x, .int .u8 y, .int .u32 s] w fun e w' => e = .returned (.bool true) ∧ Below w.heap.size w w' := by
  obtain ⟨a, hae⟩ : ∃ a, a = 1 + x % 96 := ⟨_, rfl⟩
  obtain ⟨b, hbe⟩ : ∃ b, b = 1 + y % 96 := ⟨_, rfl⟩
  obtain ⟨N, hab⟩ : ∃ N, a * b = N := ⟨_, rfl⟩
  have ha : 1 ≤ a ∧ a ≤ 256 := by omega
  have hb : 1 ≤ b ∧ b ≤ 256 := by omega
  have hN : N ≤ 16384 := by
    have h : a * b ≤ 96 * 96 := Nat.mul_le_mul (by omega) (by omega)
    omega
  have hz : sizeE a b = 0 := sizeE_ok ha hb (by omega)
  have hL := Lib.hid hab
  obtain ⟨ua, hua⟩ : ∃ ua, ua = x % 96 := ⟨_, rfl⟩
  obtain ⟨ub, hub⟩ : ∃ ub, ub = y % 96 := ⟨_, rfl⟩
  have f1 : (x : Int) % 96 = (ua : Int) := by omega
  have f2 : (y : Int) % 96 = (ub : Int) := by omega
  have f3 : 1 + (ua : Int) = (a : Int) := by omega
  have f4 : 1 + (ub : Int) = (b : Int) := by omega
  clear hae hbe hua hub hab
  go_enter Try.func3, Try.ntmps3
  go_wp2_with fail
  refine (awake19 _).mono ?_
  rintro e w1 ⟨rfl, hB1⟩
  have HB1 := Lib.hid hB1
  go_wp2_with fail
  clear f1 f2 f3 f4
  refine (noise_law a b N s hL.out ha hb hN hz _).mono ?_
  rintro e w2 ⟨g, cap, c, rfl, hcn, hcm, hO, hby, hB⟩
  obtain ⟨n4, hn4⟩ : ∃ n4, n4 = 4 * N := ⟨_, rfl⟩
  rw [← hn4] at hcn hO ⊢
  have hN1 : 1 ≤ N := by
    have : 1 * 1 ≤ a * b := Nat.mul_le_mul ha.1 hb.1
    have := hL.out
    omega
  have hgl := (hO.lt g (by omega) rfl)
  have hal : Below w2.heap.size w2 (w2.alloc (.cells #[.int .i64 a, .int .i64 b, .slice (some ⟨g, 0, none⟩) n4 cap] 26)) := (Below.refl _ w2).alloc (Nat.le_refl _) _
  have HR := Lib.hid (hp_new0 w2 (.cells #[.int .i64 a, .int .i64 b, .slice (some ⟨g, 0, none⟩) n4 cap] 26))
  have HO := Lib.hid ((hO.below hal).le hB1.size)
  have HB := Lib.hid (HB1.out.trans ((hB.trans (hal.mono hB.size)).mono HB1.out.size))
  have HN4 := Lib.hid hn4
  have hw1 := hB1.size
  clear hal hO hB hn4
  go_wp2_with fail
  generalize w2.alloc (.cells #[.int .i64 a, .int .i64 b, .slice (some ⟨g, 0, none⟩) n4 cap] 26) = w3 at *
  obtain ⟨rb, hrb⟩ : ∃ rb, rb = w2.heap.size := ⟨_, rfl⟩
  rw [← hrb] at HR hgl ⊢
  have hrw : w.heap.size ≤ rb := by have := HB.out.size; omega
  clear hrb
  go_loopw [8] (fun x wr => ∃ (k : Nat) (ck : Nat → Nat), k ≤ N ∧ x = .int .i64 ((4 * k + 3 : Nat) : Int) ∧ Below w.heap.size w wr ∧ wr.heap[rb]? = some (.cells #[.int .i64 a, .int .i64 b, .slice (some ⟨g, 0, none⟩) n4 cap] 26 (0, 0)) ∧ Own w.heap.size wr (some ⟨g, 0, none⟩) n4 ck ∧ Byl ck) (fun x _ => n4 + 3 - (intOf x).toNat)
  case atStart => exact ⟨0, c, by omega, rfl, HB.out, HR.out, HO.out, hby⟩
  case round =>
    obtain ⟨k, ck, hk, rfl, hB, hR, hO, hBy⟩ := hrel
    have hn4 := HN4.out
    obtain ⟨q, hq⟩ : ∃ q, q = 4 * k + 3 := ⟨_, rfl⟩
    rw [← hq]
    have k2 := hp_cell (j := 2) hR rfl
    have hand : bits .and .u32 (s : Int) 1 = ((s % 2 : Nat) : Int) := by
      have := u32_and_nat s 1 (by omega) (by omega)
      rwa [nat_mask1] at this
    by_cases hgo : k < N ∧ s % 2 = 0
    · obtain ⟨hkN, hs2⟩ := hgo
      rw [hs2] at hand
      have hqn : q < n4 := by omega
      obtain ⟨ci, fi, hgB2, hg9⟩ := own_cell hO hqn
      have hO1 := own_put hO q 65535
      have hR1 := hp_oth (i := q) (v := .int .u16 (65535 : Nat)) hR (show ¬rb = g by omega)
      have hB1' := hB.setCell (p := ⟨g, q, none⟩) hgB2 (.int .u16 (65535 : Nat))
      have HO2 := Lib.hid hO1
      have HR2 := Lib.hid hR1
      have HB2 := Lib.hid hB1'
      have HY2 := Lib.hid (hBy.up (k := q) (v := 65535) ⟨by omega, by omega⟩)
      have hq4 : (q : Int) + 4 = ((4 * (k + 1) + 3 : Nat) : Int) := by omega
      have HQ4 := Lib.hid hq4
      have hkN1 : k + 1 ≤ N := hkN
      have hmq : n4 + 3 - (intOf (Value.int .i64 ((4 * (k + 1) + 3 : Nat) : Int))).toNat < n4 + 3 - (intOf (Value.int .i64 (q : Nat))).toNat := by simp only [intOf, Int.toNat_natCast]; omega
      have hw64 : wrap64 ((q : Int) + 4) = (q : Int) + 4 := IntWalk.wrap64_in _ (by omega)
      have HMQ := Lib.hid hmq
      have HW64 := Lib.hid hw64
      clear hO hO1 hR hR1 hB hB1' hBy hn4 hq hq4 hmq hkN
      go_wp2_with fail
      go_roundw
      case rel => exact ⟨k + 1, _, hkN1, congrArg (Value.int .i64) (HW64.out.trans HQ4.out), HB2.out, HR2.out, HO2.out, HY2.out⟩
      case measure =>
        rw [HW64.out, HQ4.out]
        exact HMQ.out
    · have hex : (¬ q < n4) ∨ (q < n4 ∧ s % 2 = 1) := by omega
      have HO2 := Lib.hid hO
      have HR2 := Lib.hid hR
      have HB2 := Lib.hid hB
      have HY2 := Lib.hid hBy
      have k0 := hp_cell (j := 0) hR rfl
      have k1 := hp_cell (j := 1) hR rfl
      obtain ⟨M, hM⟩ : ∃ M, M = 9 * a := ⟨_, rfl⟩
      obtain ⟨M2, hM2⟩ : ∃ M2, M2 = M * b := ⟨_, rfl⟩
      have hM2e : M2 = 9 * N := by rw [hM2, hM, Nat.mul_assoc, hL.out]
      have p1 : (9 : Int) * (a : Int) = (M : Int) := by omega
      have p2 : (M : Int) * (b : Int) = (M2 : Int) := by rw [hM2]; simp
      have HM2 := Lib.hid hM2e
      have hM2b : M2 ≤ 147456 := by omega
      clear hO hR hB hBy hn4 hq hgo hM hM2 hM2e
      rcases hex with hqn | ⟨hqn, hs2⟩
      all_goals
        try rw [hs2] at hand
        go_wp2_with fail
        have hpx := HO2.out.pix
        refine (enc_n4 a b N n4 HN4.out (some ⟨g, 0, none⟩) cap ck (fun i => (HY2.out i).1) hcn hcm hz hL.out ha hb hN (fun i _ => (HY2.out i).2) _ hpx).mono ?_
        rintro e w4 ⟨gb, capb, m, rfl, hml, hB4, hBM⟩
        have HBM := Lib.hid hBM
        have HR4 := Lib.hid (hp_below HR2.out hB4 (lt_heap HR2.out))
        have HO4 := Lib.hid (HO2.out.below hB4)
        have HB4 := Lib.hid (HB2.out.trans (hB4.mono HB2.out.size))
        have hmM : (m : Int) ≤ (M2 : Int) + 2048 := by have := HM2.out; omega
        clear hBM hB4 hpx k0 k1 k2 hand hml
        go_wp2_with fail
        refine HBM.out.mono ?_
        rintro e w8 ⟨A8, cap8, rfl, hn8, hc8, hP8, hB8⟩
        have hR8 := hp_below HR4.out hB8 (lt_heap HR4.out)
        have hO8 := HO4.out.below hB8
        have hal8 : Below w8.heap.size w8 (w8.alloc (.cells #[.int .i64 a, .int .i64 b, .slice A8 n4 cap8] 26)) := (Below.refl _ w8).alloc (Nat.le_refl _) _
        have hQ9 := hp_new0 w8 (.cells #[.int .i64 a, .int .i64 b, .slice A8 n4 cap8] 26)
        have hR9 := hp_below hR8 hal8 (lt_heap hR8)
        have hB9 := HB4.out.trans ((hB8.trans (hal8.mono hB8.size)).mono HB4.out.size)
        have HP9 := Lib.hid (hP8.below hal8)
        have HO9 := Lib.hid (hO8.below hal8).pix
        have HB9 := Lib.hid hB9
        have HQ9 := Lib.hid hQ9
        have HR9 := Lib.hid hR9
        have k0 := hp_cell (j := 0) hR9 rfl
        have k1 := hp_cell (j := 1) hR9 rfl
        have k2 := hp_cell (j := 2) hR9 rfl
        have q0 := hp_cell (j := 0) hQ9 rfl
        have q1 := hp_cell (j := 1) hQ9 rfl
        have q2 := hp_cell (j := 2) hQ9 rfl
        clear hR8 hO8 hal8 hQ9 hR9 hB9 hP8 hB8
        go_wp2_with fail
        refine (same_ref a b A8 n4 cap8 ck a b (some ⟨g, 0, none⟩) n4 cap ck (by unfold In64; omega) (by unfold In64; omega) (by unfold In64; omega) (by unfold In64; omega) hn8 hc8 hcn hcm _ HP9.out HO9.out).mono ?_
        rintro e w10 ⟨rfl, hB10⟩
        rw [same_self19 ck (by rw [HN4.out]; exact mayN hz hL.out)]
        have hR10 := hp_below HR9.out hB10 (lt_heap HR9.out)
        have HF := Lib.hid (HB9.out.trans (hB10.mono HB9.out.size))
        clear hB10 k0 k1 k2 q0 q1 q2
        have k0 := hp_cell (j := 0) hR10 rfl
        have k1 := hp_cell (j := 1) hR10 rfl
        clear hR10
        go_wp2_with fail
        go_ret
        exact ⟨rfl, HF.out⟩
end Go.Proofs.Ythgafdbdmemkhaa
