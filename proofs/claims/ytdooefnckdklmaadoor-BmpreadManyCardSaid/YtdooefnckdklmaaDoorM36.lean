/- BmpreadMany: the walk. -/
import Derived.Test.YtdooefnckdklmaaDoorM35

namespace Go.Proofs.YtdooefnckdklmaaDoor
set_option maxRecDepth 100000
set_option linter.unusedVariables false
open Go.ChangeShapes Go.WideShapes Go.ChangeAt Go.RowKit

theorem pt4_lt32 {q : P4} (h0 : q.1 < 4294967296) (h1 : q.2.1 < 4294967296) (h2 : q.2.2.1 < 4294967296) (h3 : q.2.2.2 < 4294967296) (i : Nat) : pt4 q i < 4294967296 := by
  unfold pt4
  split
  · exact h0
  · split
    · exact h1
    · split
      · exact h2
      · exact h3
set_option maxRecDepth 1000000 in
set_option maxHeartbeats 8000000 in
theorem many_walk18 (f vv : Nat → Nat) (hf : ∀ i, f i < 4294967296) (hvv : ∀ i, vv i < 4294967296) (A : Option Addr) (m cap : Nat) (hm : m ≤ cap) (hcap : cap ≤ maxLen) (wd : Bool) (w : World) (hU : U32s w A m vv) (hT : TabW w) :
    Calls Tryd.prog 8 #[.agg #[.int .u32 (f 0 : Nat), .int .u32 (f 1 : Nat), .int .u32 (f 2 : Nat), .int .u32 (f 3 : Nat)], .slice A m cap, .bool wd] w fun e w' => e = .returned (.bool true) ∧ Below w.heap.size w w' := by
  have HF := Lib.hid hf
  have HVV := Lib.hid hvv
  have HTW := Lib.hid hT
  unfold maxLen at hcap
  have HAW : Hid (∀ a, A = some a → 0 < m → a.block < w.heap.size) := Lib.hid (fun a ha h0 => by
    obtain ⟨bk, of, h1, h2, _⟩ := hU h0
    rw [h1] at ha
    cases ha
    exact h2)
  have HB := Lib.hid ((Below.refl _ w).alloc (Nat.le_refl _) (.cells #[.int .u32 (f 0 : Nat), .int .u32 (f 1 : Nat), .int .u32 (f 2 : Nat), .int .u32 (f 3 : Nat)] 57))
  have HX := Lib.hid (hp_new0 w (.cells #[.int .u32 (f 0 : Nat), .int .u32 (f 1 : Nat), .int .u32 (f 2 : Nat), .int .u32 (f 3 : Nat)] 57))
  have HU := Lib.hid (hU.below HB.out)
  clear hU hf hvv hT
  go_enter Tryd.func8, Tryd.ntmps8
  go_wp2_with fail
  generalize w.alloc (.cells #[.int .u32 (f 0 : Nat), .int .u32 (f 1 : Nat), .int .u32 (f 2 : Nat), .int .u32 (f 3 : Nat)] 57) = w1 at *
  refine (awake18 _ (HTW.out.below HB.out)).mono ?_
  rintro e w2 ⟨rfl, hB2⟩
  obtain ⟨bx, hbx⟩ : ∃ bx, bx = (#[.int .u32 (f 0 : Nat), .int .u32 (f 1 : Nat), .int .u32 (f 2 : Nat), .int .u32 (f 3 : Nat)] : Array Value) := ⟨_, rfl⟩
  have HBX := Lib.hid hbx
  obtain ⟨xb, hxb⟩ : ∃ xb, xb = w.heap.size := ⟨_, rfl⟩
  have HST2 : Hid (StM xb bx A m vv w w2) := Lib.hid ⟨by rw [hxb, hbx]; exact hp_below HX.out hB2 (lt_heap HX.out), HU.out.below hB2, HB.out.trans (hB2.mono HB.out.size)⟩
  have hwx : w.heap.size ≤ xb := by omega
  rw [← hxb]
  clear hB2 hbx hxb HX HU HB
  by_cases hm0 : m < 1
  · have t1 : decide ((m : Int) < 1) = true := decide_eq_true (by omega)
    have HBL := Lib.hid HST2.out.bel
    go_wp2_with fail
    go_ret
    exact ⟨rfl, HBL.out⟩
  have t1 : decide ((m : Int) < 1) = false := decide_eq_false (by omega)
  by_cases hm2 : 200 < m
  · have t2 : decide ((200 : Int) < (m : Int)) = true := decide_eq_true (by omega)
    have HBL := Lib.hid HST2.out.bel
    go_wp2_with fail
    go_ret
    exact ⟨rfl, HBL.out⟩
  have t2 : decide ((200 : Int) < (m : Int)) = false := decide_eq_false (by omega)
  have hm1 : 1 ≤ m ∧ m ≤ 200 := by omega
  clear hm0 hm2
  go_upto_if 35 with fail
  clear t1 t2
  obtain ⟨bits, hbe⟩ : ∃ bits : Nat, bits = if wd = true then 32 else 16 := ⟨_, rfl⟩
  have hbits : bits = 16 ∨ bits = 32 := by rw [hbe]; cases wd <;> simp
  have HBS := Lib.hid hbe
  clear hbe
  go_cut [7] (fun s wx => s = .int .i64 (bits : Nat) ∧ wx = w2)
  case first =>
    cases wd with
    | true =>
      go_wp2_with fail
      go_meet
      exact ⟨by rw [HBS.out]; rfl, rfl⟩
    | false =>
      go_wp2_with fail
      go_meet
      exact ⟨by rw [HBS.out]; rfl, rfl⟩
  case rest =>
  obtain ⟨rfl, hwc⟩ := hcut
  obtain rfl : w2 = wc := hwc.symm
  clear hwc
  have hb32 : bits ≤ 32 := by omega
  have hu2 := Go.Lib.run_convert_bytes_const (P := Tryd.prog) w2 22 5 #[.int .u8 66, .int .u8 77] 2 2 Tryd.underlying22 Tryd.underlying5
  obtain ⟨w4, hw4⟩ : ∃ w4, w4 = w2.alloc (.cells #[.int .u8 66, .int .u8 77] 5 (2, 3)) := ⟨_, rfl⟩
  have h4 : w4.heap[w2.heap.size]? = some (.cells #[.int .u8 66, .int .u8 77] 5 (2, 3)) := by rw [hw4]; exact hp_new0 _ _
  have hB4 : Below w2.heap.size w2 w4 := by rw [hw4]; exact (Below.refl _ w2).alloc (Nat.le_refl _) _
  obtain ⟨cb, w5, r5, o5, g5⟩ := run_bm w4 w2.heap.size 120 (2, 3) h4 (by omega) (by omega)
  rw [hw4] at r5
  have HR5 := Lib.hid r5
  have hB5 : Below w4.heap.size w4 w5 := (Chg.grown (S := []) g5 (fun r e => by cases e)).below (Nat.le_refl _) (by simp)
  have hs4 : w4.heap.size = w2.heap.size + 1 := by rw [hw4]; simp
  have hST5 := (HST2.out.below hB4).below hB5
  have hr5 := (o5.lt w4.heap.size rfl).2
  rw [hs4] at o5 hr5
  obtain ⟨b16, hb16⟩ : ∃ b16, b16 = bits * 65536 := ⟨_, rfl⟩
  obtain ⟨pb, hpb⟩ : ∃ pb, pb = 1 + b16 := ⟨_, rfl⟩
  have f4 : (bits : Int) * 65536 = (b16 : Int) := by omega
  have f5 : (1 : Int) + (b16 : Int) = (pb : Int) := by omega
  have hob : b16 ≤ 4000000 ∧ pb ≤ 4000000 := by omega
  have HPB : Hid (pb = 1 + bits * 65536) := Lib.hid (by omega)
  obtain ⟨a0, ha0⟩ : ∃ a0, a0 = f 0 := ⟨_, rfl⟩
  obtain ⟨a1, ha1⟩ : ∃ a1, a1 = f 1 := ⟨_, rfl⟩
  obtain ⟨a2, ha2⟩ : ∃ a2, a2 = f 2 := ⟨_, rfl⟩
  obtain ⟨a3, ha3⟩ : ∃ a3, a3 = f 3 := ⟨_, rfl⟩
  have la : a0 < 4294967296 ∧ a1 < 4294967296 ∧ a2 < 4294967296 ∧ a3 < 4294967296 := by rw [ha0, ha1, ha2, ha3]; exact ⟨HF.out 0, HF.out 1, HF.out 2, HF.out 3⟩
  have k0 : w5.cell? ⟨xb, 0, none⟩ = some (.int .u32 (a0 : Nat)) := hp_cell hST5.box (by rw [HBX.out, ha0]; rfl)
  have k1 : w5.cell? ⟨xb, 1, none⟩ = some (.int .u32 (a1 : Nat)) := hp_cell hST5.box (by rw [HBX.out, ha1]; rfl)
  have k2 : w5.cell? ⟨xb, 2, none⟩ = some (.int .u32 (a2 : Nat)) := hp_cell hST5.box (by rw [HBX.out, ha2]; rfl)
  have k3 : w5.cell? ⟨xb, 3, none⟩ = some (.int .u32 (a3 : Nat)) := hp_cell hST5.box (by rw [HBX.out, ha3]; rfl)
  have hS6 : HdM (w2.heap.size + 1) cb w5.heap.size xb (lowM m bits f) bx A m vv w F0 (w5.alloc (.cells (lowM m bits f) 3)) := ⟨o5.alloc _, hp_new0 _ _, hST5.below ((Below.refl _ w5).alloc (Nat.le_refl _) _)⟩
  have HS6 : Hid (HdM (w2.heap.size + 1) cb w5.heap.size xb (lowM m bits f) bx A m vv w F0 (w5.alloc (.cells #[.int .i64 10, .int .i64 122, .int .i64 14, .int .i64 108, .int .i64 18, .int .i64 (m : Nat), .int .i64 22, .int .i64 1, .int .i64 26, .int .i64 (pb : Nat), .int .i64 30, .int .i64 3, .int .i64 54, .int .i64 (a0 : Nat), .int .i64 58, .int .i64 (a1 : Nat), .int .i64 62, .int .i64 (a2 : Nat), .int .i64 66, .int .i64 (a3 : Nat)] 3))) := Lib.hid (by rw [HPB.out, ha0, ha1, ha2, ha3]; exact hS6)
  have hlb : w2.heap.size + 1 < w5.heap.size := hr5
  have hxw : xb < w2.heap.size + 1 := by have := lt_heap HST2.out.box; omega
  clear r5 hS6 hST5 hB5 hB4 o5 g5 h4 hs4 hr5 HST2 hb16 hpb ha0 ha1 ha2 ha3
  go_upto_region 10 with (at_builtin; refine wpList_app0 rfl _ _ 22 3 rfl _ _ _ _ rfl rfl HR5.out ?_)
  clear HR5 hu2 hw4 f4 f5 k0 k1 k2 k3
  obtain ⟨nb, hnb⟩ : ∃ nb, nb = w2.heap.size + 1 := ⟨_, rfl⟩
  obtain ⟨lb, hlbe⟩ : ∃ lb, lb = w5.heap.size := ⟨_, rfl⟩
  rw [← hnb] at HS6 hlb hxw ⊢
  rw [← hlbe] at hlb ⊢
  rw [← hlbe] at HS6
  have hwx2 : w.heap.size ≤ xb ∧ xb < nb := ⟨hwx, hxw⟩
  clear hnb hlbe
  generalize w5.alloc (.cells #[.int .i64 10, .int .i64 122, .int .i64 14, .int .i64 108, .int .i64 18, .int .i64 (m : Nat), .int .i64 22, .int .i64 1, .int .i64 26, .int .i64 (pb : Nat), .int .i64 30, .int .i64 3, .int .i64 54, .int .i64 (a0 : Nat), .int .i64 58, .int .i64 (a1 : Nat), .int .i64 62, .int .i64 (a2 : Nat), .int .i64 66, .int .i64 (a3 : Nat)] 3) = w6 at *
  clear la HPB hob
  go_wp2_with fail
  go_loopw [10] (fun q wr => ∃ j : Nat, j ≤ 10 ∧ q = .int .i64 ((2 * j : Nat) : Int) ∧ HdM nb cb lb xb (lowM m bits f) bx A m vv w (hF ((psM m bits f).take j)) wr) (fun q _ => 20 - (intOf q).toNat)
  case atStart => exact ⟨0, by omega, rfl, HS6.out⟩
  case round =>
    clear HS6
    obtain ⟨j, hj, rfl, hS⟩ := hrel
    have HS := Lib.hid hS
    clear hS
    by_cases hlt : j < 10
    · obtain ⟨p, hp⟩ : ∃ p, (psM m bits f)[j]? = some p := ⟨_, List.getElem?_eq_getElem (by simpa [psM] using hlt)⟩
      obtain ⟨hlw, hat, hlw2, hLb⟩ := lowM_at hp hb32 hm1.2 HF.out
      have hft := hF_take hp
      obtain ⟨at_, v⟩ := p
      dsimp only at hlw hat hft hlw2 hLb
      obtain ⟨q, hq⟩ : ∃ q, q = 2 * j := ⟨_, rfl⟩
      rw [← hq] at hlw hlw2 ⊢
      have hq20 : q ≤ 18 := by omega
      have HLW := Lib.hid (And.intro hlw hlw2)
      have HFT := Lib.hid hft
      have HQ := Lib.hid hq
      obtain ⟨f0, hf0⟩ : ∃ f0, f0 = hF ((psM m bits f).take j) := ⟨_, rfl⟩
      rw [← hf0] at HS HFT
      clear hlw hlw2 hft hp hq hf0
      go_wp2_with fail
      go_loopw [11] (fun s wx => ∃ k : Nat, k ≤ 4 ∧ s = .int .i64 (k : Nat) ∧ HdM nb cb lb xb (lowM m bits f) bx A m vv w (putK f0 at_ v k) wx) (fun s _ => 4 - (intOf s).toNat)
      case atStart => exact ⟨0, by omega, rfl, by rw [putK_0]; exact HS.out⟩
      case round =>
        clear HS
        obtain ⟨k, hk, rfl, hS⟩ := hrel
        have HS := Lib.hid hS
        clear hS
        by_cases hk4 : k < 4
        · have l1 := hp_cell HS.out.low HLW.out.1
          have l2 := hp_cell HS.out.low HLW.out.2
          have b1 := HS.out.own.cellAt (at_ + k) (by omega)
          have hfr := HS.out.own.frozenAt (at_ + k)
          rw [show (cellsB (fL 122 (putK f0 at_ v k)))[at_ + k]? = some (.int .u8 ((putK f0 at_ v k (at_ + k) : Nat) : Int)) by
            rw [cellsB, List.getElem?_map, fL, List.getElem?_map, List.getElem?_range (by omega)]; rfl] at b1
          obtain ⟨z, hz⟩ : ∃ z, z = putK f0 at_ v k (at_ + k) := ⟨_, rfl⟩
          rw [← hz] at b1
          have hnx := HS.out.put (nb := nb) (lb := lb) (by omega) hwx2 HAW.out (at_ := at_) (v := v) (k := k) rfl (by omega)
          obtain ⟨x, hx⟩ : ∃ x, x = at_ + k := ⟨_, rfl⟩
          rw [← hx] at b1 hfr hnx
          obtain ⟨q8, hq8⟩ : ∃ q8, q8 = 8 * k := ⟨_, rfl⟩
          rw [← hq8] at hnx
          have hbw := byte_wrap v q8
          have hdv := div_bd18 v q8 (by omega)
          obtain ⟨y, hy⟩ : ∃ y, y = v / 2 ^ q8 % 256 := ⟨_, rfl⟩
          rw [← hy] at hbw hnx
          have HNX := Lib.hid hnx
          have e8 : (8 : Int) * (k : Int) = (q8 : Int) := by omega
          have e9 : IntKind.i64.wrap (q8 : Int) = (q8 : Int) := IntWalk.i64_in _ (by omega)
          have hsh : q8 < 64 := by omega
          have e10 : IntKind.i64.wrap ((v : Int) / 2 ^ q8) = (v : Int) / 2 ^ q8 := IntWalk.i64_in _ (by omega)
          have j0 : (0 : Int) ≤ (q : Int) := by omega
          have j1 : (q : Int) < 20 := by omega
          have j2 : (0 : Int) ≤ (q : Int) + 1 := by omega
          have j3 : (q : Int) + 1 < 20 := by omega
          have j4 : ((q : Int) + 1).toNat = q + 1 := by omega
          have j5 : (at_ : Int) + (k : Int) = (x : Int) := by omega
          have j6 : (x : Int) < 122 := by omega
          have j7 : (0 : Int) ≤ (x : Int) := by omega
          clear hz hx hq8 hy hnx hdv
          go_wp2_with fail
          go_region
          all_goals
            go_wp2_with fail
            go_roundw
            case rel => exact ⟨k + 1, hk4, by go_num, HNX.out⟩
            case measure => simp [intOf]; omega
        · obtain rfl : k = 4 := by omega
          have HS2 := Lib.hid HS.out
          go_wp2_with fail
          go_roundw
          case rel => exact ⟨j + 1, hlt, by have := HQ.out; go_num, by rw [HFT.out]; exact HS2.out⟩
          case measure => have := HQ.out; simp [intOf]; omega
    · obtain rfl : j = 10 := by omega
      have hS := HS.out
      rw [show (psM m bits f).take 10 = psM m bits f from rfl] at hS
      obtain ⟨s9, hs9⟩ : ∃ s9 : Int, s9 = ((2 * 10 : Nat) : Int) := ⟨_, rfl⟩
      have t9 : decide (s9 < 20) = false := by simp; omega
      rw [← hs9]
      obtain ⟨K, hK⟩ : ∃ K, K = bits / 8 := ⟨_, rfl⟩
      have hK24 : K = 2 ∨ K = 4 := by omega
      have fK1 : Int.tdiv (bits : Int) 8 = (K : Int) := by rw [Int.tdiv_eq_ediv_of_nonneg (by omega)]; omega
      have hnbl : nb ≤ wr.heap.size := Nat.le_of_lt (hS.own.lt nb rfl).2
      obtain ⟨pre, hpre⟩ : ∃ pre, pre = fL 122 (hF (psM m bits f)) := ⟨_, rfl⟩
      have HL0 : Hid (RwM nb xb bx A m vv w (122 + K * 0) (pre ++ valM K vv 0) (.slice (some ⟨nb, 0, none⟩) 122 cb) wr ∧ nb ≤ wr.heap.size) := Lib.hid ⟨by rw [valM, List.append_nil, hpre]; exact ⟨hS.own, hS.st⟩, hnbl⟩
      have HPRE := Lib.hid hpre
      have HK := Lib.hid hK
      clear hs9 hS HS hnbl hpre hK
      go_wp2_with fail
      go_loopw [8, 12] (fun s8 s12 wr => ∃ i : Nat, i ≤ m ∧ s12 = .int .i64 (i : Nat) ∧ RwM nb xb bx A m vv w (122 + K * i) (pre ++ valM K vv i) s8 wr ∧ nb ≤ wr.heap.size) (fun _ s12 _ => m - (intOf s12).toNat)
      case atStart => exact ⟨0, by omega, rfl, HL0.out⟩
      case round =>
        clear HL0
        obtain ⟨i, hi, rfl, hS, hnb2⟩ := hrel
        have HS := Lib.hid hS
        clear hS
        by_cases hin : i < m
        · obtain ⟨y, hy⟩ : ∃ y, y = vv i := ⟨_, rfl⟩
          have hy32 : y < 4294967296 := by rw [hy]; exact HVV.out i
          obtain ⟨L, hL⟩ : ∃ L, L = 122 + K * i := ⟨_, rfl⟩
          have hLb : L ≤ 1000 := by
            rw [hL]
            have h1 : K * i ≤ 4 * 200 := Nat.mul_le_mul (by omega) (by omega)
            omega
          have hL2 : 122 + K * (i + 1) = L + K := by rw [hL, Nat.mul_add, Nat.mul_one, Nat.add_assoc]
          have HL2 := Lib.hid hL2
          obtain ⟨l0, hl0⟩ : ∃ l0, l0 = pre ++ valM K vv i := ⟨_, rfl⟩
          have HNX : Hid (pre ++ valM K vv (i + 1) = l0 ++ byM y K) := Lib.hid (by rw [valM, ← List.append_assoc, hl0, hy])
          rw [← hL, ← hl0] at HS
          have HI0 : Hid (RwM nb xb bx A m vv w (L + 0) (l0 ++ byM y 0) u8 wr ∧ nb ≤ wr.heap.size) := Lib.hid ⟨by rw [byM, List.append_nil, Nat.add_zero]; exact HS.out, hnb2⟩
          have HVI := Lib.hid hy
          clear hy hL hL2 hl0 HS hnb2
          go_wp2_with fail
          go_loopw [8, 13] (fun s8 s13 wx => ∃ k : Nat, k ≤ K ∧ s13 = .int .i64 (k : Nat) ∧ RwM nb xb bx A m vv w (L + k) (l0 ++ byM y k) s8 wx ∧ nb ≤ wx.heap.size) (fun _ s13 _ => K - (intOf s13).toNat)
          case atStart => exact ⟨0, by omega, rfl, HI0.out⟩
          case round =>
            clear HI0
            obtain ⟨k, hk, rfl, hS, hnb3⟩ := hrel
            have HS := Lib.hid hS
            clear hS
            by_cases hkK : k < K
            · obtain ⟨q8, hq8⟩ : ∃ q8, q8 = 8 * k := ⟨_, rfl⟩
              obtain ⟨z, hz⟩ : ∃ z, z = y / 2 ^ q8 := ⟨_, rfl⟩
              obtain ⟨b8, hb8⟩ : ∃ b8, b8 = z % 256 := ⟨_, rfl⟩
              obtain ⟨v8, w8, r8, hL8, hnb8⟩ := HS.out.app hwx2 hnb3 HAW.out [b8] 1 rfl (by omega) (by omega)
              have HL8 : Hid (RwM nb xb bx A m vv w (L + (k + 1)) (l0 ++ byM y (k + 1)) v8 w8) := Lib.hid (by
                rw [byM, ← hq8, ← hz, ← hb8, ← List.append_assoc]
                exact hL8)
              obtain ⟨bk, of, hAe, hbk, hcl⟩ := HS.out.st.arg (by omega)
              have c0 := hcl i hin
              rw [← HVI.out] at c0
              have HR8 := Lib.hid r8
              have hz32 : z < 4294967296 := by rw [hz]; exact Nat.lt_of_le_of_lt (Nat.div_le_self _ _) hy32
              have hb8b : b8 < 256 := by omega
              have e8 : (8 : Int) * (k : Int) = (q8 : Int) := by omega
              have e9 : IntKind.i64.wrap (q8 : Int) = (q8 : Int) := IntWalk.i64_in _ (by omega)
              have hcv : (y : Int) / 2 ^ q8 = (z : Int) := by rw [hz]; simp
              have hbw : IntKind.u8.wrap (z : Int) = (b8 : Int) := by rw [IntKind.wrap_u8']; omega
              have hsh : q8 < 64 := by omega
              subst hAe
              clear hq8 hz hb8 hL8 r8 hcl hbk
              go_wp2_with (at_builtin; refine wpList_app rfl _ _ 22 rfl _ _ _ _ rfl rfl HR8.out ?_)
              go_roundw
              case rel => exact ⟨k + 1, hkK, by go_num, HL8.out, hnb8⟩
              case measure => simp [intOf]; omega
            · obtain rfl : K = k := by omega
              have HS2 := Lib.hid HS.out
              go_wp2_with fail
              go_roundw
              case rel => exact ⟨i + 1, hin, by go_num, by rw [HL2.out, HNX.out]; exact HS2.out, hnb3⟩
              case measure => simp [intOf]; omega
        · obtain rfl : m = i := by omega
          obtain ⟨L, hL⟩ : ∃ L, L = 122 + K * m := ⟨_, rfl⟩
          have hLb : L ≤ 1000 := by
            rw [hL]
            have h1 : K * m ≤ 4 * 200 := Nat.mul_le_mul (by omega) (by omega)
            omega
          rw [← hL] at HS
          obtain ⟨v9, w9, r9, hL9, hnb9⟩ := HS.out.app hwx2 hnb2 HAW.out [0, 0] 2 rfl (by omega) (by omega)
          have HR9 := Lib.hid r9
          obtain ⟨N9, hN9⟩ : ∃ N9, N9 = L + 2 := ⟨_, rfl⟩
          have HSN : Hid (RwM nb xb bx A m vv w N9 (fileM m bits f vv) v9 w9) := Lib.hid (by
            rw [fileM, ← HPRE.out, ← HK.out, hN9, ← List.append_assoc]
            exact hL9)
          have HN9 : Hid (N9 = 124 + bits / 8 * m) := Lib.hid (by rw [hN9, hL, HK.out]; omega)
          have hN9b : N9 ≤ 1002 := by omega
          clear r9 hL9 hnb9 hN9 hL HS hnb2
          go_upto_region 24 with fail
          go_cut [8] (fun s wx => Hid (RwM nb xb bx A m vv w N9 (fileM m bits f vv) s wx))
          case first =>
            go_wp2_with (at_builtin; refine wpList_app rfl _ _ 22 rfl _ _ _ _ rfl rfl HR9.out ?_)
            go_meet
            exact HSN
          case rest =>
          refine (show ∀ a w', Code.wp Tryd.prog _ _ a w' → _ from by assumption) _ _ ?_
          refine wp_sameM ?_
          exact many_tail f vv HF HVV A m cap hm hcap hm1 wd bits HBS w HTW xb bx HBX nb N9 HN9 hN9b _ _ hcut _ _ _ _ _ _ _ _ _ _ _ _ _ _ _ _ _ _ _ _ _ _ _ _ _ _ _ _ _ _ _ _ _ _ _ _ _ _ _ _ _ _ _ _ _ _ _ _ _ _ _ _ _ _ _ _ _ _ _ _ _ _ _ _ _ _ _ _ _ _ _ _ _ _ _ _ _ _ _ _ _ _ _ _ _ _ _ _ _ _ _ _ _ _ _ _ _ _ _ _ _ _ _ _ _ _ _ _ _ _ _ _ _ _ _ _ _ _ _ _ _ _ _ _ _ _ _ _ _ _ _ _ _ _ _ _ _ _ _ _ _ _ _ _ _ _ _ _ _ _ _ _ _ _ _ _ _ _ _ _ _ _ _ _ _ _ _ _ _ _ _ _ _ _ _ _ _ _ _ _
end Go.Proofs.YtdooefnckdklmaaDoor
