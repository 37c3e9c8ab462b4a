/- BmpreadRuns: the walk. Rows of pairs of bytes that came in. Rows of one's own that slices are appended to; bytes.Clone; new readers. Rows of bytes as strings. engraverlaw1.awake. Align, Bytes of a reader from the lowest bit; the reference's Align; the closures of BitsLow. Bits written. Bits written from the highest of each byte on; what was written. What was written, from either end. For BitsEnds, BitsBack, BitsKnown: a writer stays, a new writer, eight bits of a byte. -/
import Derived.Test.YtdooefnckdklmaaDoorM18
import Derived.Deep.RegionHeld3
import Derived.Deep.AppendLies
import Derived.Laws.BytesArg
import Derived.StillTailTactics
namespace Go.Proofs.YtdooefnckdklmaaDoor
set_option maxRecDepth 100000
set_option linter.unusedVariables false
open Go.ChangeShapes Go.WideShapes Go.ChangeAt Go.RowKit

theorem fileR_lt {W H N : Nat} {b at_ many col : Nat → Nat} (hb : ∀ i, b i < 256) (hat : ∀ i, at_ i = b (2 * i) % W) (hmany : ∀ i, many i = 1 + b (2 * i + 1) % (W - at_ i)) (hcol : ∀ i, col i = b (2 * i) % 3) (hW : 1 ≤ W ∧ W ≤ 40) : ∀ x ∈ fileR W H N at_ many col, x < 256 := by
  have hln : ∀ i, ∀ x ∈ lnR at_ many col i, x < 256 := fun i x hx => by
    have h1 := hat i
    have h2 := hmany i
    have h3 := hcol i
    have h4 : at_ i < W := by rw [h1]; exact Nat.mod_lt _ (by omega)
    have h5 := Nat.mod_lt (b (2 * i + 1)) (show 0 < W - at_ i by omega)
    have h6 := Nat.mod_lt (b (2 * i)) (show 0 < 3 by omega)
    simp only [lnR, List.mem_cons, List.not_mem_nil, or_false] at hx
    rcases hx with rfl | rfl | rfl | rfl | rfl | rfl | rfl | rfl <;> omega
  have hls : ∀ k, ∀ x ∈ linesR at_ many col k, x < 256 := by
    intro k
    induction k with
    | zero => intro x hx; cases hx
    | succ k ih =>
      intro x hx
      rw [linesR] at hx
      rcases List.mem_append.1 hx with h | h
      · exact ih x h
      · exact hln k x h
  intro x hx
  unfold fileR at hx
  rcases List.mem_append.1 hx with h | h
  · obtain ⟨j, _, rfl⟩ := List.mem_map.1 h
    exact hF_lt _ _
  · rcases List.mem_append.1 h with h | h
    · simp only [colsR, List.mem_cons, List.not_mem_nil, or_false] at h
      omega
    · rcases List.mem_append.1 h with h | h
      · exact hls N x h
      · simp only [List.mem_cons, List.not_mem_nil, or_false] at h
        omega
theorem colL_pt {cl : Nat} (h : cl < 3) : pt4 ((colL[cl]?).getD (0, 0, 0, 0)) 0 = (cl * 3 + 3) * 257 ∧ pt4 ((colL[cl]?).getD (0, 0, 0, 0)) 1 = (cl * 3 + 2) * 257 ∧ pt4 ((colL[cl]?).getD (0, 0, 0, 0)) 2 = (cl * 3 + 1) * 257 ∧ pt4 ((colL[cl]?).getD (0, 0, 0, 0)) 3 = 65535 := by
  have k : cl = 0 ∨ cl = 1 ∨ cl = 2 := by omega
  rcases k with rfl | rfl | rfl <;> exact ⟨rfl, rfl, rfl, rfl⟩
theorem want_set {w wA : World} {xb pb n4 cap10 m W H : Nat} {A A10 : Option Addr} {cc b : Nat → Nat} {P : P4} {i0 i1 i2 i3 v0 v1 v2 v3 : Int} (hnw : wA.heap[xb]? = some (.cells #[.int .u16 i0, .int .u16 i1, .int .u16 i2, .int .u16 i3] 43 (0, 0))) (hS : wA.heap[pb]? = some (.cells #[.int .i64 (W : Nat), .int .i64 (H : Nat), .slice A10 n4 cap10] 26 (0, 0)) ∧ Pix wA A10 n4 cc ∧ Byt wA A m b ∧ Below w.heap.size w wA) (hpb : pb < xb) (hw : w.heap.size ≤ xb) (hA : ∀ a, A = some a → 0 < m → a.block < xb) (hA10 : ∀ a, A10 = some a → 0 < n4 → a.block < xb) (h0 : v0 = (pt4 P 0 : Nat)) (h1 : v1 = (pt4 P 1 : Nat)) (h2 : v2 = (pt4 P 2 : Nat)) (h3 : v3 = (pt4 P 3 : Nat)) :
    ((((wA.setCell ⟨xb, 0, none⟩ (.int .u16 v0)).setCell ⟨xb, 1, none⟩ (.int .u16 v1)).setCell ⟨xb, 2, none⟩ (.int .u16 v2)).setCell ⟨xb, 3, none⟩ (.int .u16 v3)).heap[xb]? = some (.cells #[.int .u16 (pt4 P 0 : Nat), .int .u16 (pt4 P 1 : Nat), .int .u16 (pt4 P 2 : Nat), .int .u16 (pt4 P 3 : Nat)] 43 (0, 0)) ∧
    ((((wA.setCell ⟨xb, 0, none⟩ (.int .u16 v0)).setCell ⟨xb, 1, none⟩ (.int .u16 v1)).setCell ⟨xb, 2, none⟩ (.int .u16 v2)).setCell ⟨xb, 3, none⟩ (.int .u16 v3)).heap[pb]? = some (.cells #[.int .i64 (W : Nat), .int .i64 (H : Nat), .slice A10 n4 cap10] 26 (0, 0)) ∧ Pix ((((wA.setCell ⟨xb, 0, none⟩ (.int .u16 v0)).setCell ⟨xb, 1, none⟩ (.int .u16 v1)).setCell ⟨xb, 2, none⟩ (.int .u16 v2)).setCell ⟨xb, 3, none⟩ (.int .u16 v3)) A10 n4 cc ∧ Byt ((((wA.setCell ⟨xb, 0, none⟩ (.int .u16 v0)).setCell ⟨xb, 1, none⟩ (.int .u16 v1)).setCell ⟨xb, 2, none⟩ (.int .u16 v2)).setCell ⟨xb, 3, none⟩ (.int .u16 v3)) A m b ∧ Below w.heap.size w ((((wA.setCell ⟨xb, 0, none⟩ (.int .u16 v0)).setCell ⟨xb, 1, none⟩ (.int .u16 v1)).setCell ⟨xb, 2, none⟩ (.int .u16 v2)).setCell ⟨xb, 3, none⟩ (.int .u16 v3)) := by
  subst h0 h1 h2 h3
  have hc : Chg [xb] wA ((((wA.setCell ⟨xb, 0, none⟩ (.int .u16 (pt4 P 0 : Nat))).setCell ⟨xb, 1, none⟩ (.int .u16 (pt4 P 1 : Nat))).setCell ⟨xb, 2, none⟩ (.int .u16 (pt4 P 2 : Nat))).setCell ⟨xb, 3, none⟩ (.int .u16 (pt4 P 3 : Nat))) := ((((Chg.refl [xb] wA).set (g := xb) (.inl (by simp)) 0 _).set (g := xb) (.inl (by simp)) 1 _).set (g := xb) (.inl (by simp)) 2 _).set (g := xb) (.inl (by simp)) 3 _
  refine ⟨heap_set (heap_set (heap_set (heap_set hnw))), hp_chg hS.1 hc (by simp; omega), fun hn => ?_, hS.2.2.1.chg hc (fun h0 a ha => by have := hA a ha h0; simp; omega), hS.2.2.2.trans (hc.below (B := w.heap.size) hS.2.2.2.size (by simpa using hw))⟩
  exact pix_chg hS.2.1 hc (fun a ha => by have := hA10 a ha hn; simp; omega) hn
set_option maxRecDepth 100000 in
set_option maxHeartbeats 8000000 in
theorem runs_walk18 (A : Option Addr) (n cap : Nat) (b : Nat → Nat) (hb : ∀ i, b i < 256) (hn : n ≤ cap) (u : Nat) (hu : u < 256) (w : World) (hP : Byt w A (2 * n) b) (hAw : ∀ a, A = some a → 0 < 2 * n → a.block < w.heap.size) (hT : TabW w) :
    Calls Tryd.prog 6 #[.slice A n cap, .int .u8 u] w fun e w' => e = .returned (.bool true) ∧ Below w.heap.size w w' := by
  have HP := Lib.hid hP
  have HBB := Lib.hid hb
  have HTW := Lib.hid hT
  have HAW := Lib.hid hAw
  clear hP hb hT hAw
  go_enter Tryd.func6, Tryd.ntmps6
  go_wp2_with fail
  refine (awake18 _ HTW.out).mono ?_
  rintro e w2 ⟨rfl, hB2⟩
  have HB2 := Lib.hid hB2
  have HP2 := Lib.hid (HP.out.below hB2)
  clear hB2
  by_cases hbig : 60 < n
  · have hbg : decide ((60 : Int) < (n : Int)) = true := decide_eq_true (by omega)
    go_wp2_with fail
    go_ret
    exact ⟨rfl, HB2.out⟩
  have hbg : decide ((60 : Int) < (n : Int)) = false := decide_eq_false (by omega)
  obtain ⟨r, hr⟩ : ∃ r, r = u % 40 := ⟨_, rfl⟩
  have f1 : (u : Int) % 40 = (r : Int) := by omega
  have f2 : Int.tmod (u : Int) 40 = (r : Int) := by rw [Int.tmod_eq_emod_of_nonneg (by omega), f1]
  have hr40 : r < 40 := by omega
  obtain ⟨W, hW⟩ : ∃ W, W = 1 + r := ⟨_, rfl⟩
  have hW1 : 1 ≤ W ∧ W ≤ 40 := by omega
  have f3 : (1 : Int) + (r : Int) = (W : Int) := by omega
  obtain ⟨H, hH⟩ : ∃ H, H = n + 1 := ⟨_, rfl⟩
  have f4 : (1 : Int) + (n : Int) = (H : Int) := by omega
  have hH1 : 1 ≤ H ∧ H ≤ 61 := by omega
  have HHN := Lib.hid hH
  have hn60 : n ≤ 60 := by omega
  clear hr hW hH hbig
  have hu2 := Go.Lib.run_convert_bytes_const (P := Tryd.prog) w2 22 5 #[.int .u8 66, .int .u8 77] 2 2 Tryd.underlying22 Tryd.underlying5
  obtain ⟨w3, hw3⟩ : ∃ w3, w3 = w2.alloc (.cells #[.int .u8 66, .int .u8 77] 5 (2, 3)) := ⟨_, rfl⟩
  have h3 : w3.heap[w2.heap.size]? = some (.cells #[.int .u8 66, .int .u8 77] 5 (2, 3)) := by rw [hw3]; exact hp_new0 _ _
  have hB3 : Below w2.heap.size w2 w3 := by rw [hw3]; exact (Below.refl _ w2).alloc (Nat.le_refl _) _
  obtain ⟨cb, w4, r4, o4, g4⟩ := run_bm w3 w2.heap.size 52 (2, 3) h3 (by omega) (by omega)
  rw [hw3] at r4
  have HR4 := Lib.hid r4
  have hB4 : Below w3.heap.size w3 w4 := (Chg.grown (S := []) g4 (fun r e => by cases e)).below (Nat.le_refl _) (by simp)
  have hs3 : w3.heap.size = w2.heap.size + 1 := by rw [hw3]; simp
  have hP4 := (HP2.out.below hB3).below hB4
  have hBw4 := HB2.out.trans ((hB3.trans (hB4.mono hB3.size)).mono HB2.out.size)
  have hw0 : w.heap.size ≤ w2.heap.size := HB2.out.size
  have hr4 := (o4.lt w3.heap.size rfl).2
  rw [hs3] at o4 hr4
  have hS5 : HdW 54 (w2.heap.size + 1) cb w4.heap.size (lowR W H) A (2 * n) b w F0 (w4.alloc (.cells (lowR W H) 3)) := ⟨o4.alloc _, hp_new0 _ _, hP4.below ((Below.refl _ w4).alloc (Nat.le_refl _) _), hBw4.alloc hBw4.size _⟩
  have HS5 : Hid (HdW 54 (w2.heap.size + 1) cb w4.heap.size (lowR W H) A (2 * n) b w (hF ((psR W H).take 0)) (w4.alloc (.cells #[.int .i64 10, .int .i64 66, .int .i64 14, .int .i64 40, .int .i64 18, .int .i64 (W : Nat), .int .i64 22, .int .i64 (H : Nat), .int .i64 26, .int .i64 524289, .int .i64 30, .int .i64 1, .int .i64 46, .int .i64 3] 3))) := Lib.hid hS5
  have hlb : w2.heap.size + 1 < w4.heap.size := hr4
  clear r4 hS5 hP4 hBw4 hB4 hB3 o4 g4 h3 HB2 HP2 hs3 hr4 HP
  go_wp2_with (at_builtin; refine wpList_app0 rfl _ _ 22 3 rfl _ _ _ _ rfl rfl HR4.out ?_)
  clear HR4 hu2 hw3 f1 f2 f3 f4
  obtain ⟨nb, hnb⟩ : ∃ nb, nb = w2.heap.size + 1 := ⟨_, rfl⟩
  obtain ⟨lb, hlbe⟩ : ∃ lb, lb = w4.heap.size := ⟨_, rfl⟩
  rw [← hnb, ← hlbe] at HS5 hlb ⊢
  have hwnb : w.heap.size ≤ nb := by omega
  clear hnb hlbe hw0
  go_loopw [9] (fun q wr => ∃ j : Nat, j ≤ 7 ∧ q = .int .i64 ((2 * j : Nat) : Int) ∧ HdW 54 nb cb lb (lowR W H) A (2 * n) b w (hF ((psR W H).take j)) wr) (fun q _ => 14 - (intOf q).toNat)
  case atStart => exact ⟨0, by omega, rfl, HS5.out⟩
  case round =>
    clear HS5
    obtain ⟨j, hj, rfl, hS⟩ := hrel
    have HS := Lib.hid hS
    clear hS
    by_cases hlt : j < 7
    · obtain ⟨p, hp⟩ : ∃ p, (psR W H)[j]? = some p := ⟨_, List.getElem?_eq_getElem (by simpa [psR] using hlt)⟩
      have hlw := lowR_at hp
      have hbd := psR_bd (by omega) (by omega) hp
      have hft := hF_take hp
      obtain ⟨at_, v⟩ := p
      dsimp only at hlw hbd hft
      obtain ⟨q, hq⟩ : ∃ q, q = 2 * j := ⟨_, rfl⟩
      rw [← hq] at hlw ⊢
      have hq20 : q ≤ 12 := by omega
      have HLW := Lib.hid hlw
      have HFT := Lib.hid hft
      have HQ := Lib.hid hq
      obtain ⟨f0, hf0⟩ : ∃ f0, f0 = hF ((psR W H).take j) := ⟨_, rfl⟩
      rw [← hf0] at HS HFT
      have hat := hbd.1
      have hv32 := hbd.2
      clear hlw hft hp hq hf0 hbd
      go_wp2_with fail
      go_loopw [10] (fun s wx => ∃ k : Nat, k ≤ 4 ∧ s = .int .i64 (k : Nat) ∧ HdW 54 nb cb lb (lowR W H) A (2 * n) b w (putK f0 at_ v k) wx) (fun s _ => 4 - (intOf s).toNat)
      case atStart => exact ⟨0, by omega, rfl, by rw [putK_0]; exact HS.out⟩
      case round =>
        clear HS
        obtain ⟨k, hk, rfl, hS⟩ := hrel
        have HS := Lib.hid hS
        clear hS
        by_cases hk4 : k < 4
        · have l1 := hp_cell HS.out.low HLW.out.1
          have l2 := hp_cell HS.out.low HLW.out.2
          have b1 := HS.out.own.cellAt (at_ + k) (by omega)
          have hfr := HS.out.own.frozenAt (at_ + k)
          rw [show (cellsB (fL 54 (putK f0 at_ v k)))[at_ + k]? = some (.int .u8 ((putK f0 at_ v k (at_ + k) : Nat) : Int)) by
            rw [cellsB, List.getElem?_map, fL, List.getElem?_map, List.getElem?_range (by omega)]; rfl] at b1
          obtain ⟨z, hz⟩ : ∃ z, z = putK f0 at_ v k (at_ + k) := ⟨_, rfl⟩
          rw [← hz] at b1
          have hnx := HS.out.put (nb := nb) (lb := lb) (by omega) hwnb HAW.out (at_ := at_) (v := v) (k := k) rfl (by omega)
          obtain ⟨x, hx⟩ : ∃ x, x = at_ + k := ⟨_, rfl⟩
          rw [← hx] at b1 hfr hnx
          obtain ⟨q8, hq8⟩ : ∃ q8, q8 = 8 * k := ⟨_, rfl⟩
          rw [← hq8] at hnx
          have hbw := byte_wrap v q8
          obtain ⟨y, hy⟩ : ∃ y, y = v / 2 ^ q8 % 256 := ⟨_, rfl⟩
          rw [← hy] at hbw hnx
          have HNX := Lib.hid hnx
          have e8 : (8 : Int) * (k : Int) = (q8 : Int) := by omega
          have e9 : IntKind.i64.wrap (q8 : Int) = (q8 : Int) := IntWalk.i64_in _ (by omega)
          have hsh : q8 < 64 := by omega
          have hdv := div_bd18 v q8 (by omega)
          have e10 : IntKind.i64.wrap ((v : Int) / 2 ^ q8) = (v : Int) / 2 ^ q8 := IntWalk.i64_in _ (by omega)
          have j0 : (0 : Int) ≤ (q : Int) := by omega
          have j1 : (q : Int) < 14 := by omega
          have j2 : (0 : Int) ≤ (q : Int) + 1 := by omega
          have j3 : (q : Int) + 1 < 14 := by omega
          have j4 : ((q : Int) + 1).toNat = q + 1 := by omega
          have j5 : (at_ : Int) + (k : Int) = (x : Int) := by omega
          have j6 : (x : Int) < 54 := by omega
          have j7 : (0 : Int) ≤ (x : Int) := by omega
          clear hz hx hq8 hy hnx hdv
          go_wp2_with fail
          go_region
          all_goals
            go_wp2_with fail
            go_roundw
            case rel => exact ⟨k + 1, hk4, by go_num, HNX.out⟩
            case measure => simp [intOf]; omega
        · obtain rfl : k = 4 := by omega
          have HS2 := Lib.hid HS.out
          go_wp2_with fail
          go_roundw
          case rel => exact ⟨j + 1, hlt, by have := HQ.out; go_num, by rw [HFT.out]; exact HS2.out⟩
          case measure => have := HQ.out; simp [intOf]; omega
    · obtain rfl : j = 7 := by omega
      have hS := HS.out
      rw [show (psR W H).take 7 = psR W H from rfl] at hS
      obtain ⟨s9, hs9⟩ : ∃ s9 : Int, s9 = ((2 * 7 : Nat) : Int) := ⟨_, rfl⟩
      have t9 : decide (s9 < 14) = false := by simp; omega
      rw [← hs9]
      have hL0 : LnW nb [] A (2 * n) b w 54 (fL 54 (hF (psR W H))) (.slice (some ⟨nb, 0, none⟩) 54 cb) wr := ⟨hS.own, hS.arg, hS.bel⟩
      have hnbl : nb ≤ wr.heap.size := Nat.le_of_lt (hS.own.lt nb rfl).2
      obtain ⟨v1, wx, rr, hL1, hnb1⟩ := hL0.app hwnb hnbl HAW.out colsR 12 rfl (by omega) (by omega)
      have HRR : Hid ((Builtin.append_ #[22, 22] 22 #[.slice (some ⟨nb, 0, none⟩) 54 cb, .slice (some ⟨wr.heap.size, 0, none⟩) 12 12]).run Tryd.prog (wr.alloc (.cells #[.int .u8 1, .int .u8 2, .int .u8 3, .int .u8 0, .int .u8 4, .int .u8 5, .int .u8 6, .int .u8 0, .int .u8 7, .int .u8 8, .int .u8 9, .int .u8 0] 5)) = .ok v1 wx) := Lib.hid rr
      have HL1 := Lib.hid hL1
      clear hs9 hS HS hL0 rr hL1 hnbl
      go_wp2_with (at_builtin; refine wpList_app rfl _ _ 22 rfl _ _ _ _ rfl rfl HRR.out ?_)
      clear HRR
      obtain ⟨at_, hat⟩ : ∃ f : Nat → Nat, f = fun i => b (2 * i) % W := ⟨_, rfl⟩
      obtain ⟨many, hmany⟩ : ∃ f : Nat → Nat, f = fun i => 1 + b (2 * i + 1) % (W - at_ i) := ⟨_, rfl⟩
      obtain ⟨col, hcol⟩ : ∃ f : Nat → Nat, f = fun i => b (2 * i) % 3 := ⟨_, rfl⟩
      have HAT : Hid (∀ i, at_ i = b (2 * i) % W) := Lib.hid (fun i => by rw [hat])
      have HMANY : Hid (∀ i, many i = 1 + b (2 * i + 1) % (W - at_ i)) := Lib.hid (fun i => by rw [hmany])
      have HCOL : Hid (∀ i, col i = b (2 * i) % 3) := Lib.hid (fun i => by rw [hcol])
      have HL2 : Hid (LnW nb [] A (2 * n) b w (66 + 8 * 0) (fL 54 (hF (psR W H)) ++ colsR ++ linesR at_ many col 0) v1 wx ∧ nb ≤ wx.heap.size) := Lib.hid ⟨by rw [linesR, List.append_nil]; exact HL1.out, hnb1⟩
      clear hat hmany hcol HL1 hnb1
      go_loopw [7, 11] (fun s7 s11 wr => ∃ i : Nat, i ≤ n ∧ s11 = .int .i64 (i : Nat) ∧ LnW nb [] A (2 * n) b w (66 + 8 * i) (fL 54 (hF (psR W H)) ++ colsR ++ linesR at_ many col i) s7 wr ∧ nb ≤ wr.heap.size) (fun _ s11 _ => n - (intOf s11).toNat)
      case atStart => exact ⟨0, by omega, rfl, HL2.out⟩
      case round =>
        clear HL2
        obtain ⟨i, hi, rfl, hS, hnb2⟩ := hrel
        have HS := Lib.hid hS
        clear hS
        by_cases hin : i < n
        · obtain ⟨bk, of, rfl, hbl, hcl⟩ := HS.out.arg (by omega)
          have x0 := hcl (2 * i) (by omega)
          have x1 := hcl (2 * i + 1) (by omega)
          rw [Nat.mul_comm 2 i] at x0 x1
          rw [← Nat.add_assoc] at x1
          have hb0 := HBB.out (2 * i)
          have hb1 := HBB.out (2 * i + 1)
          have a1 := HAT.out i
          have a2 := HMANY.out i
          have a3 := HCOL.out i
          rw [Nat.mul_comm 2 i] at hb0 hb1 a1 a2 a3
          obtain ⟨x, hx⟩ : ∃ x, x = b (i * 2) := ⟨_, rfl⟩
          obtain ⟨y, hy⟩ : ∃ y, y = b (i * 2 + 1) := ⟨_, rfl⟩
          rw [← hx] at x0 hb0 a1 a3
          rw [← hy] at x1 hb1 a2
          obtain ⟨v8, w8, r8, hL8, hnb8⟩ := HS.out.app hwnb hnb2 HAW.out (lnR at_ many col i) 8 rfl (by omega) (by omega)
          have HL8 : Hid (LnW nb [] (some ⟨bk, of, none⟩) (2 * n) b w (66 + 8 * (i + 1)) (fL 54 (hF (psR W H)) ++ colsR ++ linesR at_ many col (i + 1)) v8 w8) := Lib.hid (by
            rw [linesR, ← List.append_assoc]
            exact hL8)
          unfold lnR at r8
          obtain ⟨a, ha⟩ : ∃ a, a = at_ i := ⟨_, rfl⟩
          obtain ⟨M, hM⟩ : ∃ M, M = many i := ⟨_, rfl⟩
          obtain ⟨cl, hcl2⟩ : ∃ cl, cl = col i := ⟨_, rfl⟩
          rw [← ha] at a1 a2
          rw [← hM] at a2
          rw [← hcl2] at a3
          rw [← ha, ← hM, ← hcl2] at r8
          have HR8 : Hid ((Builtin.append_ #[22, 22] 22 #[u7, .slice (some ⟨wr.heap.size, 0, none⟩) 8 8]).run Tryd.prog (wr.alloc (.cells #[.int .u8 0, .int .u8 2, .int .u8 (a : Nat), .int .u8 0, .int .u8 (M : Nat), .int .u8 (cl : Nat), .int .u8 0, .int .u8 0] 5)) = .ok v8 w8) := Lib.hid r8
          have haW : a < W := by rw [a1]; exact Nat.mod_lt _ (by omega)
          obtain ⟨D, hD⟩ : ∃ D, D = W - a := ⟨_, rfl⟩
          rw [← hD] at a2
          have hD0 : ¬D = 0 := by omega
          obtain ⟨e, he⟩ : ∃ e, e = y % D := ⟨_, rfl⟩
          have heD : e < D := by rw [he]; exact Nat.mod_lt _ (by omega)
          rw [← he] at a2
          have g1 : (x : Int) % (W : Int) = (a : Int) := by rw [a1]; simp
          have g2 : Int.tmod (x : Int) (W : Int) = (a : Int) := by rw [Int.tmod_eq_emod_of_nonneg (by omega), g1]
          have g3 : ((W : Int) == 0) = false := beq_eq_false_iff_ne.2 (by omega)
          have g4 : ¬W = 0 := by omega
          have g5 : (W : Int) - (a : Int) = (D : Int) := by omega
          have g6 : (y : Int) % (D : Int) = (e : Int) := by rw [he]; simp
          have g7 : Int.tmod (y : Int) (D : Int) = (e : Int) := by rw [Int.tmod_eq_emod_of_nonneg (by omega), g6]
          have g8 : ((D : Int) == 0) = false := beq_eq_false_iff_ne.2 (by omega)
          have g9 : (1 : Int) + (e : Int) = (M : Int) := by omega
          have k1 : IntKind.u8.wrap (a : Int) = (a : Int) := by rw [IntKind.wrap_u8']; omega
          have k2 : IntKind.u8.wrap (M : Int) = (M : Int) := by rw [IntKind.wrap_u8']; omega
          have k3 : (x : Int) % 3 = (cl : Int) := by omega
          have k4 : Int.tmod (x : Int) 3 = (cl : Int) := by rw [Int.tmod_eq_emod_of_nonneg (by omega), k3]
          have k5 : IntKind.u8.wrap (cl : Int) = (cl : Int) := by rw [IntKind.wrap_u8']; omega
          have hWb : W ≤ 40 := hW1.2
          have hcl3 : cl < 3 := by omega
          have i1 : (i : Int) < (n : Int) := by omega
          have i2 : (0 : Int) ≤ (i : Int) := by omega
          clear hcl hx hy hL8 r8 ha hM hcl2 hD he a1 a2 a3
          go_wp2_with (at_builtin; refine wpList_app rfl _ _ 22 rfl _ _ _ _ rfl rfl HR8.out ?_)
          go_roundw
          case rel => exact ⟨i + 1, hin, by go_num, HL8.out, hnb8⟩
          case measure => simp [intOf]; omega
        · obtain rfl : n = i := by omega
          obtain ⟨v9, w9, r9, hL9, hnb9⟩ := HS.out.app hwnb hnb2 HAW.out [0, 1] 2 rfl (by omega) (by omega)
          have HR9 : Hid ((Builtin.append_ #[22, 22] 22 #[u7, .slice (some ⟨wr.heap.size, 0, none⟩) 2 2]).run Tryd.prog (wr.alloc (.cells #[.int .u8 0, .int .u8 1] 5)) = .ok v9 w9) := Lib.hid r9
          have hown := hL9.own
          rw [List.append_assoc, List.append_assoc, HHN.out] at hown
          have hown2 : w9.ownsRow nb 5 1 v9 (66 + 8 * n + 2) (cellsB (fileR W (n + 1) n at_ many col)) := hown
          obtain ⟨-, A9, c9, rfl, -, -, -⟩ := Sl.of_own hown2
          obtain ⟨hBy, hn9, hc9, hA9⟩ := byt_own hown2 (fileR_len _ _ _ _ _ _)
          have hmy : ∀ i, i < n → 0 < many i ∧ at_ i + many i ≤ W := fun i _ => by
            have h1 := HAT.out i
            have h2 := HMANY.out i
            have h3 : at_ i < W := by rw [h1]; exact Nat.mod_lt _ (by omega)
            have h4 := Nat.mod_lt (b (2 * i + 1)) (show 0 < W - at_ i by omega)
            omega
          have hco : ∀ i, i < n → col i < 3 := fun i _ => by rw [HCOL.out]; exact Nat.mod_lt _ (by omega)
          obtain ⟨hbw, hbh, cc, hG, hpx⟩ := runs_read W n at_ many col hW1 hn60 hmy hco _ rfl (66 + 8 * n + 2) rfl
          have hDe := decode_b A9 (66 + 8 * n + 2) c9 _ (gl_lt (fileR_lt HBB.out HAT.out HMANY.out HCOL.out hW1)) hn9 hc9 w9 hA9 hBy (HTW.out.below hL9.bel)
          rw [hG] at hDe
          have HDE := Lib.hid hDe
          have HPX := Lib.hid (And.intro hbw (And.intro hbh hpx))
          have HARG := Lib.hid hL9.arg
          have HBEL := Lib.hid hL9.bel
          have HCO := Lib.hid hco
          obtain ⟨m, hm⟩ : ∃ m, m = 66 + 8 * n + 2 := ⟨_, rfl⟩
          rw [← hm] at HDE HR9
          have hmb : m < 1000 := by omega
          clear r9 hL9 hown hown2 hBy hc9 hA9 hmy hco hbw hbh hG hpx hDe HS hm hnb2 hnb9
          go_wp2_with (at_builtin; refine wpList_app rfl _ _ 22 rfl _ _ _ _ rfl rfl HR9.out ?_)
          refine HDE.out.mono ?_
          rintro e wa ⟨hBa, ⟨_, _, A10, cap10, n4, hn4, hn10, hc10, rfl, hO10⟩ | ⟨h, _⟩⟩
          rotate_left
          · exact absurd rfl h
          obtain ⟨hbw, hbh, hpx⟩ := HPX.out
          rw [hbw, hbh, ← HHN.out] at hn4
          rw [hbw, hbh, ← HHN.out]
          have hmay : mayB (W : Nat) (H : Nat) n4 = true := by
            unfold mayB
            refine decide_eq_true ⟨?_, hn4⟩
            unfold sizeE
            have h2 : (268 : Int) ≤ 16384 / ((H : Nat) : Int) := by
              rw [Int.le_ediv_iff_mul_le (by omega)]
              omega
            rw [if_neg (by omega), if_neg (by omega)]
          have HMAY := Lib.hid hmay
          have hal : Below wa.heap.size wa (wa.alloc (.cells #[.int .i64 (W : Nat), .int .i64 (H : Nat), .slice A10 n4 cap10] 26)) := (Below.refl _ wa).alloc (Nat.le_refl _) _
          have hbb := hBa.trans (hal.mono hBa.size)
          have HS5 := Lib.hid (And.intro (hp_new0 wa (.cells #[.int .i64 (W : Nat), .int .i64 (H : Nat), .slice A10 n4 cap10] 26)) (And.intro (hO10.below hal).pix (And.intro (HARG.out.below hbb) (HBEL.out.trans (hbb.mono HBEL.out.size)))))
          have HPX2 := Lib.hid hpx
          clear hBa hal hbb hO10 hmay hn4 hpx hbw hbh HDE HPX HARG HBEL HR9
          go_upto_region 25 with fail
          obtain ⟨pb, hpb⟩ : ∃ pb, pb = wa.heap.size := ⟨_, rfl⟩
          rw [← hpb] at HS5 ⊢
          generalize wa.alloc (.cells #[.int .i64 (W : Nat), .int .i64 (H : Nat), .slice A10 n4 cap10] 26) = w5 at *
          clear hpb
          have k0 := hp_cell (j := 0) HS5.out.1 rfl
          have k1 := hp_cell (j := 1) HS5.out.1 rfl
          go_wp2_with fail
          clear k0 k1
          go_loopw [16] (fun s wr => ∃ y : Nat, y ≤ H ∧ s = .int .i64 (y : Nat) ∧ wr.heap[pb]? = some (.cells #[.int .i64 (W : Nat), .int .i64 (H : Nat), .slice A10 n4 cap10] 26 (0, 0)) ∧ Pix wr A10 n4 cc ∧ Byt wr A (2 * n) b ∧ Below w.heap.size w wr) (fun s _ => H - (intOf s).toNat)
          case atStart => exact ⟨0, by omega, rfl, HS5.out⟩
          case round =>
            clear HS5
            obtain ⟨y, hy, rfl, hS⟩ := hrel
            have HS := Lib.hid hS
            clear hS
            by_cases hyH : y < H
            · obtain ⟨k, hk⟩ : ∃ k, k = H - 1 - y := ⟨_, rfl⟩
              have hkH : k < H := by omega
              have z1 : IntKind.i64.wrap ((H : Int) - 1) = (H : Int) - 1 := IntWalk.i64_in _ (by omega)
              have z2 : IntKind.i64.wrap ((H : Int) - 1 - (y : Int)) = (k : Int) := by rw [IntWalk.i64_in _ (by omega)]; omega
              have HKE := Lib.hid (show n - k = y by have := HHN.out; omega)
              have HKN := Lib.hid (show k < n + 1 by have := HHN.out; omega)
              clear hk
              go_wp2_with fail
              clear z1 z2
              go_loopw [18] (fun s wX => ∃ x : Nat, x ≤ W ∧ s = .int .i64 (x : Nat) ∧ wX.heap[pb]? = some (.cells #[.int .i64 (W : Nat), .int .i64 (H : Nat), .slice A10 n4 cap10] 26 (0, 0)) ∧ Pix wX A10 n4 cc ∧ Byt wX A (2 * n) b ∧ Below w.heap.size w wX) (fun s _ => W - (intOf s).toNat)
              case atStart => exact ⟨0, by omega, rfl, HS.out⟩
              case round =>
                clear HS
                obtain ⟨x, hx, rfl, hS⟩ := hrel
                have HS := Lib.hid hS
                clear hS
                by_cases hxW : x < W
                · have hnw := hp_new0 wr (.cells #[.int .u16 0, .int .u16 0, .int .u16 0, .int .u16 0] 43)
                  have hal : Below wr.heap.size wr (wr.alloc (.cells #[.int .u16 0, .int .u16 0, .int .u16 0, .int .u16 0] 43)) := (Below.refl _ wr).alloc (Nat.le_refl _) _
                  have q0 := hp_cell (j := 0) hnw rfl
                  have q1 := hp_cell (j := 1) hnw rfl
                  have q2 := hp_cell (j := 2) hnw rfl
                  have q3 := hp_cell (j := 3) hnw rfl
                  have qf := hp_froz hnw
                  have HNW := Lib.hid hnw
                  have HAL := Lib.hid hal
                  clear hnw hal
                  go_upto_if 152 with fail
                  clear q0 q1 q2 q3 qf
                  obtain ⟨P, hP⟩ : ∃ P, P = rowP n at_ many col colL k x := ⟨_, rfl⟩
                  have HPE := Lib.hid hP
                  have HSA : Hid ((wr.alloc (.cells #[.int .u16 0, .int .u16 0, .int .u16 0, .int .u16 0] 43)).heap[pb]? = some (.cells #[.int .i64 (W : Nat), .int .i64 (H : Nat), .slice A10 n4 cap10] 26 (0, 0)) ∧ Pix (wr.alloc (.cells #[.int .u16 0, .int .u16 0, .int .u16 0, .int .u16 0] 43)) A10 n4 cc ∧ Byt (wr.alloc (.cells #[.int .u16 0, .int .u16 0, .int .u16 0, .int .u16 0] 43)) A (2 * n) b ∧ Below w.heap.size w (wr.alloc (.cells #[.int .u16 0, .int .u16 0, .int .u16 0, .int .u16 0] 43))) := Lib.hid ⟨hp_below HS.out.1 HAL.out (lt_heap HS.out.1), HS.out.2.1.below HAL.out, HS.out.2.2.1.below HAL.out, HS.out.2.2.2.trans (HAL.out.mono HS.out.2.2.2.size)⟩
                  have hpbl := lt_heap HS.out.1
                  have hwl := HS.out.2.2.2.size
                  have hAx : ∀ a, A = some a → 0 < 2 * n → a.block < wr.heap.size := fun a ha h0 => Nat.lt_of_lt_of_le (HAW.out a ha h0) hwl
                  have HAX := Lib.hid hAx
                  have hA10x : ∀ a, A10 = some a → 0 < n4 → a.block < wr.heap.size := fun a ha h0 => by
                    obtain ⟨bk, of, h1, h2, _⟩ := HS.out.2.1 h0
                    rw [h1] at ha
                    cases ha
                    exact h2
                  have HA10X := Lib.hid hA10x
                  clear hP HS hAx hA10x
                  obtain ⟨xb, hxb⟩ : ∃ xb, xb = wr.heap.size := ⟨_, rfl⟩
                  rw [← hxb] at HNW HAX HA10X hpbl hwl ⊢
                  generalize wr.alloc (.cells #[.int .u16 0, .int .u16 0, .int .u16 0, .int .u16 0] 43) = wA at *
                  clear hxb HAL
                  go_cut [] (fun wX => Hid (wX.heap[xb]? = some (.cells #[.int .u16 (pt4 P 0 : Nat), .int .u16 (pt4 P 1 : Nat), .int .u16 (pt4 P 2 : Nat), .int .u16 (pt4 P 3 : Nat)] 43 (0, 0)) ∧ wX.heap[pb]? = some (.cells #[.int .i64 (W : Nat), .int .i64 (H : Nat), .slice A10 n4 cap10] 26 (0, 0)) ∧ Pix wX A10 n4 cc ∧ Byt wX A (2 * n) b ∧ Below w.heap.size w wX))
                  case first =>
                    have hzero : P = (0, 0, 0, 0) → (wA.heap[xb]? = some (.cells #[.int .u16 (pt4 P 0 : Nat), .int .u16 (pt4 P 1 : Nat), .int .u16 (pt4 P 2 : Nat), .int .u16 (pt4 P 3 : Nat)] 43 (0, 0)) ∧ wA.heap[pb]? = some (.cells #[.int .i64 (W : Nat), .int .i64 (H : Nat), .slice A10 n4 cap10] 26 (0, 0)) ∧ Pix wA A10 n4 cc ∧ Byt wA A (2 * n) b ∧ Below w.heap.size w wA) := fun h => by
                      subst h
                      exact ⟨HNW.out, HSA.out⟩
                    have HZERO := Lib.hid hzero
                    clear hzero
                    by_cases hkn : k < n
                    · have hP2 := HPE.out
                      obtain ⟨bk, of, rfl, hbl, hcl⟩ := HSA.out.2.2.1 (by omega)
                      have x0 := hcl (2 * k) (by omega)
                      have x1 := hcl (2 * k + 1) (by omega)
                      rw [Nat.mul_comm 2 k] at x0 x1
                      rw [← Nat.add_assoc] at x1
                      have hb0 := HBB.out (2 * k)
                      have hb1 := HBB.out (2 * k + 1)
                      have a1 := HAT.out k
                      have a2 := HMANY.out k
                      have a3 := HCOL.out k
                      rw [Nat.mul_comm 2 k] at hb0 hb1 a1 a2 a3
                      obtain ⟨X, hX⟩ : ∃ x, x = b (k * 2) := ⟨_, rfl⟩
                      obtain ⟨Y, hY⟩ : ∃ y, y = b (k * 2 + 1) := ⟨_, rfl⟩
                      rw [← hX] at x0 hb0 a1 a3
                      rw [← hY] at x1 hb1 a2
                      unfold rowP at hP2
                      obtain ⟨a, ha⟩ : ∃ a, a = at_ k := ⟨_, rfl⟩
                      obtain ⟨M, hM⟩ : ∃ M, M = many k := ⟨_, rfl⟩
                      obtain ⟨cl, hcl2⟩ : ∃ cl, cl = col k := ⟨_, rfl⟩
                      rw [← ha] at a1 a2
                      rw [← hM] at a2
                      rw [← hcl2] at a3
                      rw [← ha, ← hM, ← hcl2] at hP2
                      have haW : a < W := by rw [a1]; exact Nat.mod_lt _ (by omega)
                      obtain ⟨D, hD⟩ : ∃ D, D = W - a := ⟨_, rfl⟩
                      rw [← hD] at a2
                      have hD0 : ¬D = 0 := by omega
                      obtain ⟨e, he⟩ : ∃ e, e = Y % D := ⟨_, rfl⟩
                      have heD : e < D := by rw [he]; exact Nat.mod_lt _ (by omega)
                      rw [← he] at a2
                      have g1 : (X : Int) % (W : Int) = (a : Int) := by rw [a1]; simp
                      have g2 : Int.tmod (X : Int) (W : Int) = (a : Int) := by rw [Int.tmod_eq_emod_of_nonneg (by omega), g1]
                      have g3 : ((W : Int) == 0) = false := beq_eq_false_iff_ne.2 (by omega)
                      have g4 : ¬W = 0 := by omega
                      have g5 : (W : Int) - (a : Int) = (D : Int) := by omega
                      have g6 : (Y : Int) % (D : Int) = (e : Int) := by rw [he]; simp
                      have g7 : Int.tmod (Y : Int) (D : Int) = (e : Int) := by rw [Int.tmod_eq_emod_of_nonneg (by omega), g6]
                      have g8 : ((D : Int) == 0) = false := beq_eq_false_iff_ne.2 (by omega)
                      have g9 : (1 : Int) + (e : Int) = (M : Int) := by omega
                      have k3 : (X : Int) % 3 = (cl : Int) := by omega
                      have k4 : Int.tmod (X : Int) 3 = (cl : Int) := by rw [Int.tmod_eq_emod_of_nonneg (by omega), k3]
                      have hWb : W ≤ 40 := hW1.2
                      have hcl3 : cl < 3 := by omega
                      have i1 : (k : Int) < (n : Int) := by omega
                      have i2 : (0 : Int) ≤ (k : Int) := by omega
                      have HSM := Lib.hid (And.intro a1 (And.intro a2 (And.intro a3 (And.intro hX (And.intro hY (And.intro hD he))))))
                      clear hcl hX hY ha hM hcl2 hD he a1 a2 a3
                      by_cases hin : a ≤ x
                      · have t1 : decide ((a : Int) ≤ (x : Int)) = true := by simp; omega
                        have t1' : decide (a ≤ x) = true := by simp; omega
                        by_cases hin2 : x < a + M
                        · have t2 : decide ((x : Int) < (a : Int) + (M : Int)) = true := by simp; omega
                          rw [if_pos ⟨hkn, hin, hin2⟩] at hP2
                          obtain ⟨p0, p1, p2, p3⟩ := colL_pt hcl3
                          rw [← hP2] at p0 p1 p2 p3
                          have HPP := Lib.hid (And.intro p0 (And.intro p1 (And.intro p2 p3)))
                          have q0 := hp_cell (j := 0) HNW.out rfl
                          have q1 := hp_cell (j := 1) HNW.out rfl
                          have q2 := hp_cell (j := 2) HNW.out rfl
                          have q3 := hp_cell (j := 3) HNW.out rfl
                          have qf := hp_froz HNW.out
                          clear hP2 p0 p1 p2 p3
                          go_wp2_with fail
                          go_meet
                          obtain ⟨p0, p1, p2, p3⟩ := HPP.out
                          have e0 : ((cl : Int) * 3 + 3) * 257 = (pt4 P 0 : Nat) := by rw [p0]; omega
                          have e1 : ((cl : Int) * 3 + 2) * 257 = (pt4 P 1 : Nat) := by rw [p1]; omega
                          have e2 : ((cl : Int) * 3 + 1) * 257 = (pt4 P 2 : Nat) := by rw [p2]; omega
                          have e3 : (65535 : Int) = (pt4 P 3 : Nat) := by rw [p3]; rfl
                          have hfin := want_set (P := P) (v0 := ((cl : Int) * 3 + 3) * 257) (v1 := ((cl : Int) * 3 + 2) * 257) (v2 := ((cl : Int) * 3 + 1) * 257) (v3 := 65535) HNW.out HSA.out hpbl hwl HAX.out HA10X.out e0 e1 e2 e3
                          with_reducible exact Lib.hid hfin
                        · have t2 : decide ((x : Int) < (a : Int) + (M : Int)) = false := by simp; omega
                          rw [if_neg (fun q => hin2 q.2.2)] at hP2
                          have HP0 := Lib.hid hP2
                          clear hP2
                          go_wp2_with fail
                          go_meet
                          exact Lib.hid (HZERO.out HP0.out)
                      · have t1 : decide ((a : Int) ≤ (x : Int)) = false := by simp; omega
                        have t1' : decide (a ≤ x) = false := by simp; omega
                        rw [if_neg (fun q => hin q.2.1)] at hP2
                        have HP0 := Lib.hid hP2
                        clear hP2
                        go_wp2_with fail
                        go_meet
                        exact Lib.hid (HZERO.out HP0.out)
                    · have hP2 := HPE.out
                      unfold rowP at hP2
                      rw [if_neg (fun q => hkn q.1)] at hP2
                      have HP0 := Lib.hid hP2
                      have t1 : decide ((k : Int) < (n : Int)) = false := by simp; omega
                      clear hP2
                      go_wp2_with fail
                      go_meet
                      exact Lib.hid (HZERO.out HP0.out)
                  case rest =>
                  obtain ⟨hxc, hS7⟩ := hcut.out
                  obtain ⟨w7, hw7⟩ : ∃ w7, w7 = wc := ⟨_, rfl⟩
                  rw [← hw7] at hxc hS7 ⊢
                  have HXC := Lib.hid hxc
                  have HS7 := Lib.hid hS7
                  have hg1 : getV (W : Nat) (H : Nat) n4 cc (x : Nat) (y : Nat) = .agg #[.int .u16 (pt4 P 0 : Nat), .int .u16 (pt4 P 1 : Nat), .int .u16 (pt4 P 2 : Nat), .int .u16 (pt4 P 3 : Nat)] := by
                    have h := fun j hj => HPX2.out k x HKN.out hxW j hj
                    rw [HKE.out, ← HPE.out] at h
                    rw [getV_xy HMAY.out hxW hyH, px, ← h 0 (by omega), ← h 1 (by omega), ← h 2 (by omega), ← h 3 (by omega)]
                    rfl
                  have HG1 := Lib.hid hg1
                  have HI1 := Lib.hid (inB_xy HMAY.out hxW hyH)
                  have hEp := fun W9 => run_eqP (pt4 P 0, pt4 P 1, pt4 P 2, pt4 P 3) (pt4 P 0, pt4 P 1, pt4 P 2, pt4 P 3) W9
                  simp only [decide_true] at hEp
                  have r0 := hp_cell (j := 0) hS7.1 rfl
                  have r1 := hp_cell (j := 1) hS7.1 rfl
                  have r2 := hp_cell (j := 2) hS7.1 rfl
                  clear hxc hS7 hg1 hw7 hcut HNW HSA
                  obtain ⟨v0, hv0⟩ : ∃ v, v = pt4 P 0 := ⟨_, rfl⟩
                  obtain ⟨v1, hv1⟩ : ∃ v, v = pt4 P 1 := ⟨_, rfl⟩
                  obtain ⟨v2, hv2⟩ : ∃ v, v = pt4 P 2 := ⟨_, rfl⟩
                  obtain ⟨v3, hv3⟩ : ∃ v, v = pt4 P 3 := ⟨_, rfl⟩
                  rw [← hv0, ← hv1, ← hv2, ← hv3] at HG1 HXC hEp
                  clear hv0 hv1 hv2 hv3
                  go_wp2_with fail
                  refine (get_ref (W : Nat) (H : Nat) A10 n4 cap10 cc (x : Nat) (y : Nat) (by unfold In64; omega) (by unfold In64; omega) hn10 hc10 _ HS7.out.2.1).mono ?_
                  rintro e w8 ⟨hB8, rfl⟩
                  rw [HG1.out, HI1.out]
                  have hal : Below w8.heap.size w8 (w8.alloc (.cells #[.int .u16 (v0 : Nat), .int .u16 (v1 : Nat), .int .u16 (v2 : Nat), .int .u16 (v3 : Nat)] 43)) := (Below.refl _ w8).alloc (Nat.le_refl _) _
                  have hbb := hB8.trans (hal.mono hB8.size)
                  have HS8 := Lib.hid (And.intro (hp_below HS7.out.1 hbb (lt_heap HS7.out.1)) (And.intro (HS7.out.2.1.below hbb) (And.intro (HS7.out.2.2.1.below hbb) (HS7.out.2.2.2.trans (hbb.mono HS7.out.2.2.2.size)))))
                  have hX9 := hp_below HXC.out hbb (lt_heap HXC.out)
                  have hY9 := hp_new0 w8 (.cells #[.int .u16 (v0 : Nat), .int .u16 (v1 : Nat), .int .u16 (v2 : Nat), .int .u16 (v3 : Nat)] 43)
                  have a0 := hp_cell (j := 0) hX9 rfl
                  have a1 := hp_cell (j := 1) hX9 rfl
                  have a2 := hp_cell (j := 2) hX9 rfl
                  have a3 := hp_cell (j := 3) hX9 rfl
                  have b0 := hp_cell (j := 0) hY9 rfl
                  have b1 := hp_cell (j := 1) hY9 rfl
                  have b2 := hp_cell (j := 2) hY9 rfl
                  have b3 := hp_cell (j := 3) hY9 rfl
                  clear hB8 hal hbb HS7 HXC hX9 hY9 r0 r1 r2
                  go_upto_region 42 with fail
                  obtain ⟨yb, hyb⟩ : ∃ yb, yb = w8.heap.size := ⟨_, rfl⟩
                  rw [← hyb] at b0 b1 b2 b3 ⊢
                  generalize w8.alloc (.cells #[.int .u16 (v0 : Nat), .int .u16 (v1 : Nat), .int .u16 (v2 : Nat), .int .u16 (v3 : Nat)] 43) = w9' at *
                  clear hyb
                  go_wp2_with fail
                  go_roundw
                  case rel => exact ⟨x + 1, hxW, by go_num, HS8.out⟩
                  case measure => simp [intOf]; omega
                · obtain rfl : x = W := by omega
                  go_wp2_with fail
                  go_roundw
                  case rel => exact ⟨y + 1, hyH, by go_num, HS.out⟩
                  case measure => simp [intOf]; omega
            · obtain rfl : y = H := by omega
              have HBx := Lib.hid HS.out.2.2.2
              clear HS
              go_wp2_with fail
              go_ret
              exact ⟨rfl, HBx.out⟩
end Go.Proofs.YtdooefnckdklmaaDoor

namespace Go.Proofs.YtdooefnckdklmaaDoor
set_option maxRecDepth 100000
set_option linter.unusedVariables false
open Go.ChangeShapes Go.WideShapes Go.ChangeAt Go.RowKit

section
variable {H : Type} {enc : TypeId × Value → H} {W : World}
theorem wf8' {a : Int} (h : (Lit.int .u8 a).wf = true) : 0 ≤ a ∧ a ≤ 255 := by
  simpa [Lit.wf, IntKind.min, IntKind.max, IntKind.signed, IntKind.bits] using h
/-- Two bytes that came in, one behind the other. -/
theorem pair_of {fuel : Nat} {E : List Value} {y : DataW H × List MemPlace} (hE : E.length = 2) (hf : DataW.trod enc Tryd.prog W 0 (fun _ => true) true fuel 48 E = some y) :
    ∃ q : Nat × Nat, E = [.int .u8 (q.1 : Nat), .int .u8 (q.2 : Nat)] ∧ q.1 < 256 ∧ q.2 < 256 := by
  match E, hE with
  | [c0, c1], _ =>
    obtain ⟨xs, m, _, _, _, hx, hg⟩ := DataW.trod_array Tryd.underlying48 hf
    have c3 : Tryd.prog.cellsOf 5 = 1 := by kernel_rfl
    have g0 := hg 0 (by omega)
    have g1 := hg 1 (by omega)
    simp only [c3, List.drop_zero, Nat.one_mul, Nat.zero_mul, List.drop_succ_cons, List.take_succ_cons, List.take_zero] at g0 g1
    rw [List.getElem?_eq_getElem (by omega)] at g0 g1
    obtain ⟨a, ha, _, hwa⟩ := DataW.trod_int Tryd.underlying5 g0
    obtain ⟨b, hb, _, hwb⟩ := DataW.trod_int Tryd.underlying5 g1
    simp at ha hb
    subst ha hb
    obtain ⟨p1, p2⟩ := wf8' hwa
    obtain ⟨q1, q2⟩ := wf8' hwb
    obtain ⟨a, rfl⟩ := Int.eq_ofNat_of_zero_le p1
    obtain ⟨b, rfl⟩ := Int.eq_ofNat_of_zero_le q1
    exact ⟨(a, b), rfl, by dsimp only; omega, by dsimp only; omega⟩
theorem open_pairs {r : Reach} {b0 : Nat} {v : Value} {d : DataW H} {p : List MemPlace} (hv : Value.okWide Tryd.prog W r b0 46 v) (h : DataW.Trod enc Tryd.prog W 0 (fun _ => true) true 46 v d p) :
    ∃ A n cap b, v = .slice A n cap ∧ n ≤ cap ∧ cap ≤ maxLen ∧ Byt W A (2 * n) b ∧ (∀ i, b i < 256) ∧ ∀ a, A = some a → 0 < 2 * n → a.block < W.heap.size := by
  obtain ⟨a0, len, cap0, rfl⟩ := okWide_slice Tryd.underlying46 hv
  obtain ⟨fuel, hf⟩ := h
  obtain ⟨n, E, hS, hE, hr, hnone⟩ := open_sl1 Tryd.underlying46 (size := 2) (by kernel_rfl) (by decide) (v := .slice a0 len cap0) hf
  have hS2 := hS
  obtain ⟨_, A, cap, he, g1, g2, _⟩ := hS2
  cases he
  have h1 : ∀ i, i < len → ∃ q : Nat × Nat, E i = [.int .u8 (q.1 : Nat), .int .u8 (q.2 : Nat)] ∧ q.1 < 256 ∧ q.2 < 256 := fun i hi => by
    obtain ⟨fuel, y, hy⟩ := hr i hi
    exact pair_of (hE i hi) hy
  obtain ⟨c, hc⟩ := Go.Deep.choose_lt (α := Nat × Nat) h1
  refine ⟨a0, len, cap0, fun i => if i / 2 < len then (if i % 2 = 0 then (c (i / 2)).1 else (c (i / 2)).2) else 0, rfl, g1, g2, fun hn => ?_, fun i => ?_, fun a ha h0 => ?_⟩
  · obtain ⟨b, off, rfl, hb, hcell⟩ := hS.cell (by omega)
    refine ⟨b, off, rfl, hb, fun j hj => ?_⟩
    have hj2 : j < 2 * len := hj
    have hi : j / 2 < len := by omega
    have h2 := flat_get (n := len) E hE (j / 2) (j % 2) hi (Nat.mod_lt _ (by omega))
    have hdm : j / 2 * 2 + j % 2 = j := by omega
    rw [hdm] at h2
    rw [hcell j (by omega), h2, (hc _ hi).1]
    simp only [if_pos hi]
    have hk : j % 2 = 0 ∨ j % 2 = 1 := by omega
    rcases hk with hk | hk
    · rw [hk]; rfl
    · rw [hk]; rfl
  · show (if i / 2 < len then (if i % 2 = 0 then (c (i / 2)).1 else (c (i / 2)).2) else 0) < 256
    split
    · rename_i hi
      split
      · exact (hc _ hi).2.1
      · exact (hc _ hi).2.2
    · omega
  · obtain ⟨b, off, h2, hb, _⟩ := hS.cell (by omega)
    rw [ha] at h2
    cases h2
    exact hb
end
end Go.Proofs.YtdooefnckdklmaaDoor

namespace Go.Proofs.YtdooefnckdklmaaDoor
set_option maxRecDepth 100000
set_option linter.unusedVariables false
open Go.ChangeShapes Go.WideShapes Go.ChangeAt Go.RowKit
def cells8 (n : Nat) (b : Nat → Nat) : List Value := (List.range n).map fun j => .int .u8 (b j : Nat)
theorem cells8_get (n : Nat) (b : Nat → Nat) (j : Nat) (hj : j < n) : (cells8 n b)[j]? = some (.int .u8 (b j : Nat)) := by simp [cells8, hj]
theorem cells8_one (n : Nat) (b : Nat → Nat) : ∀ u ∈ cells8 n b, u.oneCell' = true := by
  intro u hu
  obtain ⟨j, _, rfl⟩ := List.mem_map.1 hu
  rfl
theorem byt_news {w : World} {A : Option Addr} {n : Nat} {b : Nat → Nat} (h : Byt w A n b) : 0 < n → ∃ bk off, A = some ⟨bk, off, none⟩ ∧ ∀ j u, (cells8 n b)[j]? = some u → w.cell? ⟨bk, off + j, none⟩ = some u := fun hn => by
  obtain ⟨bk, off, rfl, hlt, hc⟩ := h hn
  refine ⟨bk, off, rfl, fun j u hj => ?_⟩
  have hj' : j < n := by have := (List.getElem?_eq_some_iff.1 hj).1; simpa [cells8] using this
  rw [cells8_get n b j hj'] at hj
  rw [hc j hj', hj]
theorem own_empty8 (w : World) : (w.alloc (.cells #[] 5)).ownsRow w.heap.size 5 1 (.slice (some ⟨w.heap.size, 0, none⟩) 0 0) 0 [] :=
  ⟨rfl, .inr ⟨w.heap.size, 0, #[], rfl, Nat.le_refl _, hp_new0 w _, Nat.le_refl _, by simp [maxLen], rfl, rfl⟩⟩
/-- A row of n bytes in a block from B on. -/
structure NewB (B : Nat) (w : World) (n : Nat) (A : Option Addr) (cap : Nat) (b : Nat → Nat) : Prop where
  le : n ≤ cap
  max : cap ≤ maxLen
  nil : A = none → cap = 0
  byt : Byt w A n b
  far : ∀ a, A = some a → B ≤ a.block
  lt : ∀ a, A = some a → a.block < w.heap.size
  form : ∀ a, A = some a → a = ⟨a.block, 0, none⟩
theorem NewB.of_own {B : Nat} {w : World} {n : Nat} {v : Value} {b : Nat → Nat} (h : w.ownsRow B 5 1 v n (cells8 n b)) : ∃ A cap, v = .slice A n cap ∧ NewB B w n A cap b := by
  obtain ⟨hl, hf⟩ := h
  rcases hf with ⟨rfl, rfl⟩ | ⟨g, cap, cur, rfl, hB, hg, hnc, hcm, hcs, ht⟩
  · exact ⟨none, 0, rfl, Nat.le_refl _, by simp [maxLen], fun _ => rfl, fun h => absurd h (by omega), (fun a h => by cases h), (fun a h => by cases h), (fun a h => by cases h)⟩
  · refine ⟨some ⟨g, 0, none⟩, cap, rfl, hnc, hcm, (fun h => by cases h), fun hn => ⟨g, 0, rfl, lt_heap hg, fun j hj => ?_⟩, (fun a h => by cases h; exact hB), (fun a h => by cases h; exact lt_heap hg), (fun a h => by cases h; rfl)⟩
    rw [Nat.zero_add]
    refine hp_cell hg ?_
    have h1 := congrArg (fun l => l[j]?) ht
    simp only [List.getElem?_take, show j < n * 1 by omega, if_true] at h1
    rw [← Array.getElem?_toList, h1, cells8_get n b j hj]
theorem Off.of_far {A : Option Addr} {B : Nat} (h : ∀ a, A = some a → B ≤ a.block) {S : List Nat} (hS : ∀ k ∈ S, k < B) : Off A S := fun a ha hm => by have h1 := h a ha; have h2 := hS _ hm; omega
end Go.Proofs.YtdooefnckdklmaaDoor

namespace Go.Proofs.YtdooefnckdklmaaDoor
set_option maxRecDepth 100000
set_option linter.unusedVariables false
open Go.ChangeShapes Go.WideShapes Go.ChangeAt Go.RowKit
end Go.Proofs.YtdooefnckdklmaaDoor

namespace Go.Proofs.YtdooefnckdklmaaDoor
set_option maxRecDepth 100000
set_option linter.unusedVariables false
open Go.ChangeShapes Go.WideShapes Go.ChangeAt Go.RowKit

def b35 (_ : Nat) : Nat := 53
theorem Rd.set {T : TypeId} {g : Nat} {A : Option Addr} {n cap : Nat} {b : Nat → Nat} {p : Nat} {vo : Value} {fr : Int} {w : World} (h : Rd T g A n cap b p vo fr w) {x : Nat} (hx : x ∉ [g]) (ho : 0 < n → ∀ a, A = some a → a.block ≠ x) (i : Nat) (v : Value) : Rd T g A n cap b p vo fr (w.setCell ⟨x, i, none⟩ v) :=
  h.chg ((Chg.refl [x] w).set (.inl (by simp)) i v) (by simp at hx ⊢; omega) (fun hn a ha => by simp; exact ho hn a ha)
theorem b35_lt (i : Nat) : b35 i < 256 := by unfold b35; omega
theorem byt_one (w : World) : Byt (w.alloc (.cells #[.int .u8 53] 5)) (some ⟨w.heap.size, 0, none⟩) 1 b35 := fun _ => ⟨w.heap.size, 0, rfl, by simp, fun j hj => by
  obtain rfl : j = 0 := by omega
  exact hp_cell (hp_new0 _ _) rfl⟩
end Go.Proofs.YtdooefnckdklmaaDoor

namespace Go.Proofs.YtdooefnckdklmaaDoor
set_option maxRecDepth 100000
set_option linter.unusedVariables false
open Go.ChangeShapes Go.WideShapes Go.ChangeAt Go.RowKit

theorem run_quo8' (p : Nat) (hp : p < 1000000000) : ((p : Int) + 7) / 8 * 8 = (((p + 7) / 8 * 8 : Nat) : Int) := by omega
def up8 (p : Nat) : Nat := (p + 7) / 8 * 8
theorem up8_le {p n : Nat} (h : p ≤ 8 * n) : up8 p ≤ 8 * n := by unfold up8; omega
section
variable (g : Nat) (A : Option Addr) (n cap : Nat) (b : Nat → Nat) (p : Nat) (hn : n ≤ 1000000)
end
end Go.Proofs.YtdooefnckdklmaaDoor

namespace Go.Proofs.YtdooefnckdklmaaDoor
set_option maxRecDepth 100000
set_option linter.unusedVariables false
open Go.ChangeShapes Go.WideShapes Go.ChangeAt Go.RowKit
/-- What a writer holds: its bytes, how many bits of the last are free; ob: its row's block. -/
structure Wr (T : TypeId) (g : Nat) (iv : Value) (at_ : Int) (o : List Nat) (fr : Nat) (ob : Option Nat) (W : World) : Prop where
  row : ∃ vo, W.heap[g]? = some (.cells #[iv, vo, .int .i64 at_, .int .i64 (fr : Nat)] T (0, 0)) ∧ W.ownsRow (g + 1) 5 1 vo o.length (cellsB o) ∧ vo.ownBlock = ob
  fr8 : fr < 8
  full : 0 < fr → 0 < o.length
  lt : ∀ x ∈ o, x < 256
def roomO (o : List Nat) (fr : Nat) : List Nat := if fr = 0 then o ++ [0] else o
def roomF (fr : Nat) : Nat := if fr = 0 then 7 else fr - 1
/-- v laid over the last byte. -/
def orLast (o : List Nat) (v : Nat) : List Nat := o.set (o.length - 1) ((o[o.length - 1]?).getD 0 ||| v)
def bitX (x : Int) (i : Nat) : Nat := ((x / 2 ^ i) % 2).toNat
theorem bitX_lt (x : Int) (i : Nat) : bitX x i < 2 := by unfold bitX; omega
def stepL (x : Int) (i : Nat) (o : List Nat) (fr : Nat) : List Nat := orLast (roomO o fr) (bitX x i * 2 ^ (7 - roomF fr))
/-- The bytes behind k bits. -/
def putsL (x : Int) (o : List Nat) (fr : Nat) : Nat → List Nat × Nat
  | 0 => (o, fr)
  | k + 1 => (stepL x k (putsL x o fr k).1 (putsL x o fr k).2, roomF (putsL x o fr k).2)
theorem roomO_len (o : List Nat) (fr : Nat) : (roomO o fr).length ≤ o.length + 1 := by unfold roomO; split <;> simp
theorem puts_len (x : Int) (o : List Nat) (fr : Nat) (k : Nat) : (putsL x o fr k).1.length ≤ o.length + k := by
  induction k with
  | zero => simp [putsL]
  | succ k ih =>
    have h := roomO_len (putsL x o fr k).1 (putsL x o fr k).2
    simp only [putsL, stepL, orLast, List.length_set]
    omega
end Go.Proofs.YtdooefnckdklmaaDoor

namespace Go.Proofs.YtdooefnckdklmaaDoor
set_option maxRecDepth 100000
set_option linter.unusedVariables false
open Go.ChangeShapes Go.WideShapes Go.ChangeAt Go.RowKit

/-- The bytes behind k bits. -/
def stepH (x : Int) (i : Nat) (o : List Nat) (fr : Nat) : List Nat := orLast (roomO o fr) (bitX x i * 2 ^ roomF fr)
def putsH (x : Int) (n : Nat) (o : List Nat) (fr : Nat) : Nat → List Nat × Nat
  | 0 => (o, fr)
  | k + 1 => (stepH x (n - 1 - k) (putsH x n o fr k).1 (putsH x n o fr k).2, roomF (putsH x n o fr k).2)
theorem puth_len (x : Int) (n : Nat) (o : List Nat) (fr : Nat) (k : Nat) : (putsH x n o fr k).1.length ≤ o.length + k := by
  induction k with
  | zero => simp [putsH]
  | succ k ih =>
    have h := roomO_len (putsH x n o fr k).1 (putsH x n o fr k).2
    simp only [putsH, stepH, orLast, List.length_set]
    omega
end Go.Proofs.YtdooefnckdklmaaDoor

namespace Go.Proofs.YtdooefnckdklmaaDoor
set_option maxRecDepth 100000
set_option linter.unusedVariables false
open Go.ChangeShapes Go.WideShapes Go.ChangeAt Go.RowKit

theorem byt_of_row {w : World} {base : Nat} {v : Value} {o : List Nat} (h : w.ownsRow base 5 1 v o.length (cellsB o)) : ∃ A cap, v = .slice A o.length cap ∧ o.length ≤ cap ∧ cap ≤ maxLen ∧ (A = none → cap = 0) ∧ Byt w A o.length (fun i => (o[i]?).getD 0) := by
  obtain ⟨hl, hf⟩ := h
  rcases hf with ⟨rfl, h0⟩ | ⟨g, cap, cur, rfl, hB, hg, hnc, hcm, hcs, ht⟩
  · have h1 : o.length = 0 := h0
    exact ⟨none, 0, by rw [h1], by omega, by simp [maxLen], fun _ => rfl, fun h => absurd h (by omega)⟩
  · refine ⟨some ⟨g, 0, none⟩, cap, rfl, hnc, hcm, (fun h => by cases h), fun hn => ⟨g, 0, rfl, lt_heap hg, fun j hj => ?_⟩⟩
    rw [Nat.zero_add]
    refine hp_cell hg ?_
    have h1 := congrArg (fun l => l[j]?) ht
    simp only [List.getElem?_take, show j < o.length * 1 by omega, if_true] at h1
    rw [← Array.getElem?_toList, h1]
    simp [cellsB, hj]
end Go.Proofs.YtdooefnckdklmaaDoor

namespace Go.Proofs.YtdooefnckdklmaaDoor
set_option maxRecDepth 100000
set_option linter.unusedVariables false
open Go.ChangeShapes Go.WideShapes Go.ChangeAt Go.RowKit
theorem Wr.chg {T : TypeId} {g : Nat} {iv : Value} {at_ : Int} {o : List Nat} {fr : Nat} {ob : Option Nat} {w w' : World} {S : List Nat} (h : Wr T g iv at_ o fr ob w) (hc : Chg S w w') (hg : g ∉ S) (hob : ∀ k, ob = some k → k ∉ S) : Wr T g iv at_ o fr ob w' := by
  obtain ⟨⟨vo, hb, hown, he⟩, h8, hfu, hlt⟩ := h
  exact ⟨⟨vo, hp_chg hb hc hg, own_chg hown hc (fun k hk => hob k (he.symm.trans hk)), he⟩, h8, hfu, hlt⟩
theorem Wr.of_new {T : TypeId} {g : Nat} {A : Option Addr} {n cap : Nat} {b : Nat → Nat} {w : World} (h : Rd T g A n cap b 0 (.slice none 0 0) 0 w) : Wr T g (.slice A n cap) 0 [] 0 none w :=
  ⟨⟨.slice none 0 0, h.box, World.ownsRow_nil _ _ _ _, rfl⟩, by omega, fun h => absurd h (by omega), fun x hx => by simp at hx⟩
theorem takeH_byte (b : Nat → Nat) (h : b 0 < 256) : takeH b 0 8 = b 0 := by
  simp only [takeH, bitH]
  simp
  omega
set_option maxRecDepth 100000 in
theorem putsH_fin : ∀ z : Fin 256, putsH (z.val : Int) 8 [] 0 8 = ([z.val], 0) := by decide +kernel
theorem putsH_byte (z : Nat) (h : z < 256) : putsH (z : Int) 8 [] 0 8 = ([z], 0) := putsH_fin ⟨z, h⟩
set_option maxRecDepth 100000 in
theorem putsL_fin : ∀ z : Fin 256, putsL (z.val : Int) [] 0 8 = ([z.val], 0) := by decide +kernel
theorem putsL_byte (z : Nat) (h : z < 256) : putsL (z : Int) [] 0 8 = ([z], 0) := putsL_fin ⟨z, h⟩
/-- A byte's bits the other way round, the first i of them. -/
def turnF (v : Nat) : Nat → Nat
  | 0 => 0
  | i + 1 => 2 * turnF v i + v / 2 ^ i % 2
theorem turnF_lt (v i : Nat) : turnF v i < 2 ^ i := by
  induction i with
  | zero => simp [turnF]
  | succ i ih =>
    have h : v / 2 ^ i % 2 < 2 := Nat.mod_lt _ (by omega)
    rw [turnF, Nat.pow_succ]
    omega
theorem takeL_one (b : Nat → Nat) (p : Nat) : takeL b p 1 = bitL b p := by simp [takeL]
end Go.Proofs.YtdooefnckdklmaaDoor
