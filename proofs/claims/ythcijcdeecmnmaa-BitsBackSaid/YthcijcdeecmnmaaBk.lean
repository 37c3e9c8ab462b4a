/- BitsBack: the walk. -/
import Derived.Test.YthcijcdeecmnmaaBkC
namespace Go.Proofs.Ythcijcdeecmnmaa
set_option linter.unusedVariables false
open Go.ChangeShapes Go.WideShapes Go.ChangeAt Go.RowKit

/-- How many bits of a number are put. -/
def nk (x : Int) : Nat := (x % 18446744073709551616 % 25).toNat
theorem nk_le (x : Int) : nk x ≤ 24 := by unfold nk; omega
theorem nk_val (x : Int) : wrap64 ((IntKind.u64.wrap x).tmod 25) = (nk x : Int) := by
  have h1 := IntKind.wrap_u64 x
  have h2 : (0 : Int) ≤ IntKind.u64.wrap x := by omega
  rw [Int.tmod_eq_emod_of_nonneg h2, IntWalk.wrap64_in _ (by omega)]
  unfold nk
  omega
theorem pow_le24 (n : Nat) (hn : n ≤ 24) : (2 : Int) ^ n ≤ 16777216 ∧ (0 : Int) < 2 ^ n := by
  have h : (2 : Nat) ^ n ≤ 2 ^ 24 := Nat.pow_le_pow_right (by omega) hn
  have h2 : (0 : Nat) < 2 ^ n := Nat.pow_pos (by omega)
  have e : (2 : Int) ^ n = ((2 ^ n : Nat) : Int) := by simp
  rw [e]
  generalize (2 : Nat) ^ n = y at *
  omega
theorem pow_wrap (n : Nat) (hn : n ≤ 24) : wrap64 (2 ^ n) = 2 ^ n := by
  have := pow_le24 n hn
  generalize (2 : Int) ^ n = y at *
  exact IntWalk.wrap64_in _ (by omega)
theorem pow_wrap1 (n : Nat) (hn : n ≤ 24) : wrap64 (2 ^ n - 1) = 2 ^ n - 1 := by
  have := pow_le24 n hn
  generalize (2 : Int) ^ n = y at *
  exact IntWalk.wrap64_in _ (by omega)
set_option maxRecDepth 100000 in
set_option maxHeartbeats 1000000 in
theorem back_walk (hi : Bool) (AL : Option Addr) (m capL : Nat) (d f : Nat → Int) (hd : ∀ i, In64 (d i)) (hf : ∀ i, In64 (f i)) (h4 : m ≤ capL) (h5 : capL ≤ maxLen) (w : World) (hL : Deeds w AL m d f) :
    Calls Try.prog 8 #[.slice AL m capL, .bool hi] w fun e w' => e = .returned (.bool true) ∧ Below w.heap.size w w' := by
  have hmf : ∀ (fn : Fn) (first cap : Array Value) (w : World), (Instr.makeFunc fn first cap).run Try.prog w = .ok (.func fn first cap) w := fun _ _ _ _ => rfl
  go_enter Try.func8, Try.ntmps8
  go_wp2_with fail
  refine (awake1 _).mono ?_
  rintro e w1 ⟨rfl, hB1⟩
  have hb0 := hp_below (hp_new0 w (.cells #[.bool hi] 4)) hB1 (by simp)
  have HB := Lib.hid (((Below.refl _ w).alloc (Nat.le_refl _) (.cells #[.bool hi] 4)).trans (hB1.mono (by simp)))
  have hlt := hB1.size
  simp at hlt
  clear hB1
  unfold maxLen at h5
  by_cases c1 : 200 < m
  · have t1 : decide ((200 : Int) < (m : Int)) = true := by simp; omega
    go_wp2
    go_ret
    exact ⟨rfl, HB.out⟩
  have t1 : decide ((200 : Int) < (m : Int)) = false := by simp; omega
  have HB0 := Lib.hid hb0
  clear hb0
  go_wp2_with fail
  refine (newL_nil (fun _ => 0) _).mono ?_
  rintro e w2 ⟨rfl, hWl, rfl⟩
  go_wp2_with fail
  refine (newH_nil (fun _ => 0) _).mono ?_
  rintro e w3 ⟨rfl, hWh, he⟩
  have hs3 : w3.heap.size = w1.heap.size + 1 + 1 := by rw [he]; simp
  have hbe : Below w1.heap.size w1 w3 := by
    rw [he]
    exact ((Below.refl _ w1).alloc (Nat.le_refl _) _).alloc (by simp) _
  have hS0 : HB1 w (w1.heap.size + 1 + 1) w.heap.size w1.heap.size (w1.heap.size + 1) hi [] [] none none w3 := by
    refine ⟨hp_below HB0.out hbe (by omega), ?_, ?_, (fun k hk => by cases hk), (fun k hk => by cases hk), HB.out.trans (hbe.mono (by omega)), by omega⟩
    · rw [he]
      exact hWl.chg ((Chg.refl [] _).alloc _) (by simp) (fun _ _ => by simp)
    · have := hWh
      rw [World.size_alloc] at this
      exact this
  have hd1 : Dis1 w (w1.heap.size + 1 + 1) w.heap.size w1.heap.size (w1.heap.size + 1) := ⟨by omega, by omega, by omega⟩
  have HD1 := Lib.hid hd1
  have HS0 := Lib.hid hS0
  have HL' := Lib.hid hL
  obtain ⟨K0, hK0⟩ : ∃ K0, K0 = w1.heap.size + 1 + 1 := ⟨_, rfl⟩
  rw [← hK0] at HD1 HS0
  have HK0 := Lib.hid hK0
  clear hS0 hd1 hL HB HB0 he hbe hWl hWh hK0 hs3
  rw [World.size_alloc]
  go_wp2_with fail
  go_loopw [7] (fun x wr => ∃ (j : Nat) (o1 o2 : Option Nat), x = .int .i64 j ∧ j ≤ m ∧ HB1 w K0 w.heap.size w1.heap.size (w1.heap.size + 1) hi (allB false d (fun i => nk (f i)) j) (allB true d (fun i => nk (f i)) j) o1 o2 wr) (fun x _ => m - (intOf x).toNat)
  case atStart => exact ⟨0, none, none, rfl, by omega, HS0.out⟩
  case round =>
    obtain ⟨j, o1, o2, rfl, hj, hS⟩ := hrel
    clear HS0
    have hsz := hS.sz
    have hsw := hS.below.size
    have hll := posK_bound (fun i => nk (f i)) (fun i => nk_le _) j
    have hl1 : (allB false d (fun i => nk (f i)) j).length ≤ 24 * j := by rw [allB_len]; exact hll
    have hl2 : (allB true d (fun i => nk (f i)) j).length ≤ 24 * j := by rw [allB_len]; exact hll
    by_cases hlt2 : j < m
    · obtain ⟨lb, lo, rfl, hlb, hlc⟩ := (HL'.out.low hS.below) (by omega)
      obtain ⟨he0, he1⟩ := hlc j hlt2
      have hf64 := hf j
      have hd64 := hd j
      obtain ⟨kk, hkk⟩ : ∃ kk, kk = f j := ⟨_, rfl⟩
      obtain ⟨dd, hdd⟩ : ∃ dd, dd = d j := ⟨_, rfl⟩
      rw [← hkk] at he1 hf64
      rw [← hdd] at he0 hd64
      have HKK := Lib.hid hkk
      have HDD := Lib.hid hdd
      clear hkk hdd hlc
      have HS := Lib.hid hS
      clear hS
      have ha1 : (j : Int) < (m : Int) := by omega
      have ha2 : (0 : Int) ≤ (j : Int) := by omega
      have hnk := nk_le kk
      have H1w := HS.out.wl
      go_wp2_with fail
      rw [nk_val kk]
      obtain ⟨n, hn⟩ : ∃ n, n = nk kk := ⟨_, rfl⟩
      rw [← hn] at hnk ⊢
      have HN := Lib.hid hn
      clear hn
      refine (putL_wp w1.heap.size _ o1 (by omega) dd hd64 n hnk _ HS.out.wl).mono ?_
      rintro e w4 ⟨rfl, hC4, o3, hW4, hN4⟩
      have HS4 := Lib.hid (HS.out.putl HD1.out hC4 hW4 hN4)
      have hle4 := hC4.size
      have hdl := (HL'.out.low HS4.out.below) (by omega)
      obtain ⟨lb', lo', he9, hlb', hlc'⟩ := hdl
      cases he9
      have he0' := (hlc' j hlt2).1
      rw [← HDD.out] at he0'
      clear hC4 hW4 hN4 hlc' H1w he0 he1
      go_wp2_with fail
      refine (putH_wp (w1.heap.size + 1) _ o2 (by omega) dd hd64 n hnk _ HS4.out.wh).mono ?_
      rintro e w5 ⟨rfl, hC5, o4, hW5, hN5⟩
      have HS5 := Lib.hid (HS4.out.puth HD1.out hC5 hW5 hN5)
      clear hC5 hW5 hN5 he0'
      go_wp2_with fail
      go_roundw
      case rel =>
        refine ⟨j + 1, o3, o4, by go_num, hlt2, ?_⟩
        have h9 := HS5.out
        rw [allB, allB, ← HKK.out, ← HDD.out, ← HN.out]
        exact h9
      case measure => simp [intOf]; omega
    · obtain rfl : m = j := by omega
      have HS := Lib.hid hS
      have hg1 := hS.wl.g_lt
      have hg2 := hS.wh.g_lt
      obtain ⟨l1, hle1⟩ : ∃ l1, l1 = allB false d (fun i => nk (f i)) m := ⟨_, rfl⟩
      obtain ⟨l2, hle2⟩ : ∃ l2, l2 = allB true d (fun i => nk (f i)) m := ⟨_, rfl⟩
      have hp1 := pack_len false l1
      have hp2 := pack_len true l2
      rw [← hle1] at hl1
      rw [← hle2] at hl2
      have hq1 : l1.length = posK (fun i => nk (f i)) m := by rw [hle1, allB_len]
      have hq2 : l2.length = posK (fun i => nk (f i)) m := by rw [hle2, allB_len]
      rw [← hle1, ← hle2] at HS
      have HE1 := Lib.hid hle1
      have HE2 := Lib.hid hle2
      clear hS hle1 hle2
      obtain ⟨N, hN⟩ : ∃ N, N = (pack false l1).1.length := ⟨_, rfl⟩
      have hN2 : (pack true l2).1.length = N := by omega
      obtain ⟨P, hP⟩ : ∃ P, P = posK (fun i => nk (f i)) m := ⟨_, rfl⟩
      have hNP : N = (P + 7) / 8 := by omega
      have hPm : P ≤ 4800 := by omega
      have hNm : N ≤ 601 := by omega
      have HNP := Lib.hid hNP
      rw [← hP] at hll
      have HPe := Lib.hid hP
      have HNe := Lib.hid hN
      have HN2e := Lib.hid hN2
      clear hNP hP hp1 hp2 hq1 hq2 hl1 hl2
      go_wp2_with fail
      refine (outL w1.heap.size _ 0 _ _ o1 (by omega) _ HS.out.wl.wr).mono ?_
      rintro e w4 ⟨A4, c4, rfl, hN4, hB4⟩
      rw [← HNe.out] at hN4 ⊢
      have HS4 := Lib.hid (HS.out.far hB4)
      have HN4 := Lib.hid hN4
      clear hN4 hB4 hN hN2
      go_wp2_with fail
      refine (newL A4 N c4 _ HN4.out.le HN4.out.max HN4.out.nil (by omega) _ HN4.out.byt).mono ?_
      rintro e w5 ⟨g1, A1, d1, rfl, hg5, hR5, hA5, hB5⟩
      have HS5 := Lib.hid (HS4.out.far hB5)
      have HR5 := Lib.hid hR5
      clear hR5 hB5
      go_wp2_with fail
      refine (outH (w1.heap.size + 1) _ 0 _ _ o2 (by rw [HN2e.out]; omega) _ HS5.out.wh.wr).mono ?_
      rintro e w6 ⟨A6, c6, rfl, hN6, hB6⟩
      rw [HN2e.out] at hN6 ⊢
      have HS6 := Lib.hid (HS5.out.far hB6)
      have HR6 := Lib.hid (HR5.out.chg (Chg.of_below (S := []) hB6) (by simp) (fun _ _ _ => by simp))
      have HN6 := Lib.hid hN6
      have hs56 := hB6.size
      clear hN6 hB6
      go_wp2_with fail
      refine (newH A6 N c6 _ HN6.out.le HN6.out.max HN6.out.nil (by omega) _ HN6.out.byt).mono ?_
      rintro e w7 ⟨g2, A2, d2, rfl, hg7, hR7, hA7, hB7⟩
      have HS7 := Lib.hid (HS6.out.far hB7)
      have HR7 := Lib.hid (HR6.out.chg (Chg.of_below (S := []) hB7) (by simp) (fun _ _ _ => by simp))
      have HQ7 := Lib.hid hR7
      have hs67 := hB7.size
      have hg1l := lt_heap HR5.out.box
      have hg2l := lt_heap hR7.box
      have hK4 := HS4.out.sz
      have hw4 := HS4.out.below.size
      have hkk := HK0.out
      have hA1 : 0 < N → ∀ a, A1 = some a → w4.heap.size ≤ a.block ∧ a.block < w5.heap.size ∧ a.block ≠ g1 := fun h0 a ha => ⟨(hA5 a ha).1, (hA5 a ha).2, fun e => HR5.out.off h0 a ha (by simp [e])⟩
      have hA2 : 0 < N → ∀ a, A2 = some a → w6.heap.size ≤ a.block ∧ a.block < w7.heap.size ∧ a.block ≠ g2 := fun h0 a ha => ⟨(hA7 a ha).1, (hA7 a ha).2, fun e => hR7.off h0 a ha (by simp [e])⟩
      have HA1 := Lib.hid hA1
      have HA2 := Lib.hid hA2
      clear hR7 hB7 hA1 hA2 hA5 hA7
      have hCa : Below w7.heap.size w7 ((w7.alloc (.cells #[.pointer (some ⟨g1, 0, none⟩)] 37)).alloc (.cells #[.pointer (some ⟨g2, 0, none⟩)] 25)) := ((Below.refl _ w7).alloc (Nat.le_refl _) _).alloc (by simp) _
      have hwa : ((w7.alloc (.cells #[.pointer (some ⟨g1, 0, none⟩)] 37)).alloc (.cells #[.pointer (some ⟨g2, 0, none⟩)] 25)).heap.size = w7.heap.size + 1 + 1 := by simp
      have hr1 := HR7.out.chg (Chg.of_below (S := []) hCa) (by simp) (fun _ _ _ => by simp)
      have hr2 := HQ7.out.chg (Chg.of_below (S := []) hCa) (by simp) (fun _ _ _ => by simp)
      have hdl : w.heap.size < w7.heap.size := by omega
      have hS2 : ∃ A cap A' cap' b', HB2 w (w7.heap.size + 1 + 1) w.heap.size w7.heap.size (w7.heap.size + 1) g1 g2 hi A N cap (byB hi d (fun i => nk (f i)) m) A' N cap' b' 0 ((w7.alloc (.cells #[.pointer (some ⟨g1, 0, none⟩)] 37)).alloc (.cells #[.pointer (some ⟨g2, 0, none⟩)] 25)) ∧ Dis2 w (w7.heap.size + 1 + 1) w.heap.size w7.heap.size (w7.heap.size + 1) g1 g2 hi A N A' N := by
        have q1 := hp_below HS7.out.bb hCa hdl
        have q2 := HS7.out.below.trans (hCa.mono HS7.out.below.size)
        have e1 : (fun i => ((pack false l1).1[i]?).getD 0) = byB false d (fun i => nk (f i)) m := by rw [HE1.out]; rfl
        have e2 : (fun i => ((pack true l2).1[i]?).getD 0) = byB true d (fun i => nk (f i)) m := by rw [HE2.out]; rfl
        have hA1 := HA1.out
        have hA2 := HA2.out
        cases hi with
        | true =>
          refine ⟨A2, d2, A1, d1, _, ⟨q1, hp_alloc _ (hp_new0 _ _), hp_newk (by rw [World.size_alloc]), by rw [← e2]; exact hr2, hr1, q2, by omega⟩, ⟨by omega, by omega, by omega, fun h0 a ha => ?_, fun h0 a ha => ?_⟩⟩
          · have := hA2 h0 a ha
            omega
          · have := hA1 h0 a ha
            simp only [gw, if_true]
            omega
        | false =>
          refine ⟨A1, d1, A2, d2, _, ⟨q1, hp_alloc _ (hp_new0 _ _), hp_newk (by rw [World.size_alloc]), by rw [← e1]; exact hr1, hr2, q2, by omega⟩, ⟨by omega, by omega, by omega, fun h0 a ha => ?_, fun h0 a ha => ?_⟩⟩
          · have := hA1 h0 a ha
            omega
          · have := hA2 h0 a ha
            simp only [gw, Bool.false_eq_true, if_false]
            omega
      obtain ⟨A, cap, A', cap', b', hS2, hD2⟩ := hS2
      have HS2 := Lib.hid hS2
      have HD2 := Lib.hid hD2
      clear hS2 hD2 hCa hr1 hr2
      go_wp2_with fail
      obtain ⟨K2, hK2⟩ : ∃ K2, K2 = w7.heap.size + 1 + 1 := ⟨_, rfl⟩
      rw [← hK2] at HS2 HD2 hwa
      have HK2 := Lib.hid hK2
      have hnwa : w.heap.size ≤ K2 := by omega
      clear hK2
      go_loopw [11] (fun x wx => ∃ j : Nat, x = .int .i64 j ∧ j ≤ m ∧ HB2 w K2 w.heap.size w7.heap.size (w7.heap.size + 1) g1 g2 hi A N cap (byB hi d (fun i => nk (f i)) m) A' N cap' b' (posK (fun i => nk (f i)) j) wx) (fun x _ => m - (intOf x).toNat)
      case atStart => exact ⟨0, rfl, by omega, HS2.out⟩
      case round =>
        obtain ⟨j, rfl, hj2, hS⟩ := hrel
        clear HS2
        have hsz2 := hS.sz
        have hsw2 := hS.below.size
        have hbb := byB_lt hi d (fun i => nk (f i)) m
        have hpo := posK_le (fun i => nk (f i)) hj2
        by_cases hlt3 : j < m
        · obtain ⟨lb, lo, rfl, hlb, hlc⟩ := (HL'.out.low hS.below) (by omega)
          obtain ⟨he0, he1⟩ := hlc j hlt3
          have hd64 := hd j
          have hpk := posK_le (fun i => nk (f i)) (show j + 1 ≤ m by omega)
          rw [posK] at hpk
          have htb := take_back hi d (fun i => nk (f i)) m j hlt3
          obtain ⟨kk, hkk⟩ : ∃ kk, kk = f j := ⟨_, rfl⟩
          obtain ⟨dd, hdd⟩ : ∃ dd, dd = d j := ⟨_, rfl⟩
          obtain ⟨b, hb⟩ : ∃ b, b = byB hi d (fun i => nk (f i)) m := ⟨_, rfl⟩
          obtain ⟨p, hp⟩ : ∃ p, p = posK (fun i => nk (f i)) j := ⟨_, rfl⟩
          simp only [← hkk, ← hdd, ← hb, ← hp, ← HPe.out] at he0 he1 hd64 htb hbb hpk hpo
          rw [← hb, ← hp] at hS
          have HKK := Lib.hid hkk
          have HDD := Lib.hid hdd
          have HBe := Lib.hid hb
          have HPj := Lib.hid hp
          clear hlc hkk hdd hb hp
          have hnk := nk_le kk
          obtain ⟨n, hn⟩ : ∃ n, n = nk kk := ⟨_, rfl⟩
          rw [← hn] at htb hnk hpk
          have HTB := Lib.hid htb
          have HS := Lib.hid hS
          clear htb hS
          have ha1 : (j : Int) < (m : Int) := by omega
          have ha2 : (0 : Int) ≤ (j : Int) := by omega
          have hnv := nk_val kk
          rw [← hn] at hnv
          have HN := Lib.hid hn
          clear hn
          go_wp2_with fail
          have hBq : Below wr.heap.size wr (wr.alloc (.cells #[.int .i64 (n : Nat)] 3)) := (Below.refl _ wr).alloc (Nat.le_refl _) _
          have hxq := hp_new0 wr (.cells #[.int .i64 (n : Nat)] 3)
          have HSq := Lib.hid (HS.out.far HD2.out (Chg.of_below (S := []) hBq) (fun k hk => by cases hk))
          have cd := (hBq.cell (p := ⟨lb, lo + j * 2, none⟩) hlb).trans he0
          have hsq : (wr.alloc (.cells #[.int .i64 (n : Nat)] 3)).heap.size = wr.heap.size + 1 := World.size_alloc _ _
          generalize wr.alloc (.cells #[.int .i64 (n : Nat)] 3) = wq at *
          obtain ⟨nb, hnb⟩ : ∃ nb, nb = wr.heap.size := ⟨_, rfl⟩
          rw [← hnb] at hxq ⊢
          have cn := hp_cell (j := 0) hxq rfl
          have HX := Lib.hid hxq
          have HNb := Lib.hid hnb
          have hnb2 : wr.heap.size ≤ nb := by omega
          have hnb3 : wq.heap.size = nb + 1 := by omega
          have HBq := Lib.hid hBq
          clear hsq hxq hBq he0 he1 HS hnb
          have hn62 : n ≤ 62 := by omega
          have e1 := pow_wrap n hnk
          have e2 := pow_wrap1 n hnk
          have e3 := i64_mask dd n hn62
          have e4 : IntKind.u64.wrap (n : Int) = (n : Int) := by rw [IntKind.wrap_u64]; omega
          go_quiet (fail)
          rw [← HTB.out]
          obtain ⟨T, hT⟩ : ∃ T, T = takeB hi b p n := ⟨_, rfl⟩
          rw [← hT]
          have HT := Lib.hid hT
          have hCd : Chg [] wq (wq.drewN nq) := (Chg.refl [] wq).drewN nq
          have hSz := HSq.out.far HD2.out hCd (fun k hk => by cases hk)
          have hxz := hp_chg HX.out hCd (by simp)
          have hsz3 : (wq.drewN nq).heap.size = nb + 1 := hnb3
          generalize wq.drewN nq = wz at *
          have HSz := Lib.hid hSz
          have HXz := Lib.hid hxz
          clear hT hCd hSz hxz e1 e2 e3 e4 cd cn hn62 HSq HX
          go_wp2_with fail
          have hCg : Below wz.heap.size wz (wz.alloc (.cells #[.int .i64 0] 3)) := (Below.refl _ wz).alloc (Nat.le_refl _) _
          have hgg := hp_new0 wz (.cells #[.int .i64 0] 3)
          rw [hsz3] at hgg
          have hSg := HSz.out.far HD2.out (Chg.of_below (S := []) hCg) (fun k hk => by cases hk)
          have hng := hp_chg HXz.out (Chg.of_below (S := []) hCg) (by simp)
          have hsg : (wz.alloc (.cells #[.int .i64 0] 3)).heap.size = nb + 1 + 1 := by rw [World.size_alloc, hsz3]
          generalize wz.alloc (.cells #[.int .i64 0] 3) = wg at *
          have HSg := Lib.hid hSg
          have HGg := Lib.hid hgg
          have HNg := Lib.hid hng
          clear hCg hgg hSg hng
          have hgw := gw_or hi g1 g2
          have hup := HD2.out.up
          have hask : askB (n : Int) (8 * N - p) = true := by
            unfold askB
            apply decide_eq_true
            have := HNP.out
            omega
          have HASK := Lib.hid hask
          clear hask
          refine (guard_yes _ _ (ent_bk _) _ (fun w' => HB2 w K2 w.heap.size w7.heap.size (w7.heap.size + 1) g1 g2 hi A N cap b A' N cap' b' (p + n) w' ∧ w'.heap[nb + 1]? = some (.cells #[.int .i64 (T : Nat)] 3 (0, 0)) ∧ wg.heap.size ≤ w'.heap.size) ?_).mono ?_
          · have hBa : Chg [] wg (wg.alloc (.cells #[.bool false] 4)) := (Chg.refl [] wg).alloc _
            have hSa := HSg.out.far HD2.out hBa (fun k hk => by cases hk)
            refine (bk_yes hi w.heap.size (w7.heap.size + 1) nb (nb + 1) w7.heap.size g1 g2 A N cap b p (by omega) (by have := HNP.out; omega) hbb n HASK.out _ hSa.bb hSa.b10 hSa.b9 (hp_alloc _ HNg.out) (hp_alloc _ HGg.out) hSa.rd (by omega) (fun h0 a ha => by have := HD2.out.a1 h0 a ha; omega)).mono ?_
            rintro e w' ⟨rfl, hC, hR, hg⟩
            refine ⟨rfl, hp_chg (hp_new0 _ _) hC (by rw [hsg]; simp; omega), hSa.step HD2.out hC (fun k hk => ?_) hR, by rw [HT.out]; exact hg, by have := hC.size; simp at this; omega⟩
            simp at hk
            rcases hk with rfl | rfl
            · exact .inl rfl
            · exact .inr (by omega)
          rintro e w' ⟨rfl, w8, ⟨hS8, hg8, hle8⟩, hb8, rfl⟩
          rw [hsg] at *
          have hC8 : Chg [nb + 1 + 1] w8 (w8.setCell ⟨nb + 1 + 1, 0, none⟩ (.bool true)) := (Chg.refl _ w8).set (.inl (by simp)) _ _
          have hS9 := hS8.far HD2.out hC8 (fun k hk => by simp at hk; omega)
          have hg9 := hp_chg hg8 hC8 (by simp)
          generalize w8.setCell ⟨nb + 1 + 1, 0, none⟩ (.bool true) = w9 at *
          have cg := hp_cell (j := 0) hg9 rfl
          have HS9 := Lib.hid hS9
          clear hS8 hS9 hg8 hg9 hb8 hC8
          go_wp2_with fail
          go_roundw
          case rel =>
            refine ⟨j + 1, by go_num, hlt3, ?_⟩
            have h9 := HS9.out
            rw [posK, ← HKK.out, ← HN.out, ← HPj.out, ← HBe.out]
            exact h9
          case measure => simp [intOf]; omega
        · obtain rfl : m = j := by omega
          have c9 := hp_cell (j := 0) hS.b9 rfl
          have c0 := hp_cell (j := 0) hS.bb rfl
          have c10 := hp_cell (j := 0) hS.b10 rfl
          rw [← HPe.out] at hS
          have hNP := HNP.out
          have hq : 8 * N - P < 8 := by omega
          have hPN : P ≤ 8 * N := by omega
          have HS := Lib.hid hS
          clear hS hNP
          cases hi with
          | false =>
            have t9 : ((8 * N - P : Nat) : Int) < 8 := by omega
            go_wp2_with fail
            refine (leftL g1 A N cap _ P _ 0 (by omega) hPN _ HS.out.rd).mono ?_
            rintro e w8 ⟨rfl, q1, rfl⟩
            have hF := HS.out.below.trans (((Chg.refl [] wr).drewN q1).below (B := w.heap.size) HS.out.below.size (by simp))
            have HF := Lib.hid hF
            clear hF
            go_wp2_with fail
            go_ret
            exact ⟨by simp [t9], HF.out⟩
          | true =>
            go_wp2_with fail
            refine (leftL g1 A' N cap' _ 0 _ 0 (by omega) (by omega) _ HS.out.re).mono ?_
            rintro e w8 ⟨rfl, q1, rfl⟩
            have hC := (Chg.refl [] wr).drewN q1
            have HF := Lib.hid (HS.out.far HD2.out hC (fun k hk => by cases hk))
            clear hC
            by_cases h8 : 8 * N < 8
            · have t9 : ((8 * N - 0 : Nat) : Int) < 8 := by omega
              have hF := Lib.hid HF.out.below
              go_wp2_with fail
              go_ret
              exact ⟨rfl, hF.out⟩
            · have t9 : ¬((8 * N - 0 : Nat) : Int) < 8 := by omega
              have t8 : ((8 * N - P : Nat) : Int) < 8 := by omega
              go_wp2_with fail
              refine (leftH g2 A N cap _ P _ 0 (by omega) hPN _ HF.out.rd).mono ?_
              rintro e w8 ⟨rfl, q2, rfl⟩
              have hF := Lib.hid (HS.out.below.trans (((Chg.refl [] wr).drewN (q1 + q2)).below (B := w.heap.size) HS.out.below.size (by simp)))
              go_wp2_with fail
              go_ret
              exact ⟨rfl, hF.out⟩
end Go.Proofs.Ythcijcdeecmnmaa
