/- BmpreadSmall: the walk. -/
import Derived.Test.YtdooefnckdklmaaDoorM27

namespace Go.Proofs.YtdooefnckdklmaaDoor
set_option maxRecDepth 100000
set_option linter.unusedVariables false
open Go.ChangeShapes Go.WideShapes Go.ChangeAt Go.RowKit

theorem wp_same {P : Program} {c : Code} {R : Exit → Act → World → Prop} {a : Act} {w : World} (h : c.wp P (Exit.then (fun a w => R .normal a w) R) a w) : c.wp P R a w :=
  Code.wp_mono (fun e _ _ q => by cases e <;> exact q) h
set_option maxRecDepth 1000000 in
set_option maxHeartbeats 8000000 in
theorem small_walk18 (n0 n1 n2 n3 : Nat) (h0 : n0 < 256) (h1 : n1 < 256) (h2 : n2 < 256) (h3 : n3 < 256) (A : Option Addr) (m cap : Nat) (b : Nat → Nat) (hb : ∀ i, b i < 256) (hm : m ≤ cap) (hcap : cap ≤ maxLen) (w : World) (hP : Byt w A m b) (hT : TabW w) :
    Calls Tryd.prog 7 #[.agg #[.int .u8 n0, .int .u8 n1, .int .u8 n2, .int .u8 n3], .slice A m cap] w fun e w' => e = .returned (.bool true) ∧ Below w.heap.size w w' := by
  have HBB := Lib.hid hb
  have HTW := Lib.hid hT
  have HMC := Lib.hid hm
  unfold maxLen at hcap
  have HAW : Hid (∀ a, A = some a → 0 < m → a.block < w.heap.size) := Lib.hid (fun a ha h0 => by
    obtain ⟨bk, of, h1, h2, _⟩ := hP h0
    rw [h1] at ha
    cases ha
    exact h2)
  have HB := Lib.hid ((Below.refl _ w).alloc (Nat.le_refl _) (.cells #[.int .u8 n0, .int .u8 n1, .int .u8 n2, .int .u8 n3] 50))
  have HX := Lib.hid (hp_new0 w (.cells #[.int .u8 n0, .int .u8 n1, .int .u8 n2, .int .u8 n3] 50))
  have HP := Lib.hid (hP.below HB.out)
  clear hP hb hT
  go_enter Tryd.func7, Tryd.ntmps7
  go_wp2_with fail
  generalize w.alloc (.cells #[.int .u8 n0, .int .u8 n1, .int .u8 n2, .int .u8 n3] 50) = w1 at *
  refine (awake18 _ (HTW.out.below HB.out)).mono ?_
  rintro e w2 ⟨rfl, hB2⟩
  obtain ⟨bx, hbx⟩ : ∃ bx, bx = (#[.int .u8 n0, .int .u8 n1, .int .u8 n2, .int .u8 n3] : Array Value) := ⟨_, rfl⟩
  have HBX := Lib.hid hbx
  obtain ⟨xb, hxb⟩ : ∃ xb, xb = w.heap.size := ⟨_, rfl⟩
  have HST2 : Hid (StS xb bx A m b w w2) := Lib.hid ⟨by rw [hxb, hbx]; exact hp_below HX.out hB2 (lt_heap HX.out), HP.out.below hB2, HB.out.trans (hB2.mono HB.out.size)⟩
  have hwx : w.heap.size ≤ xb := by omega
  rw [← hxb]
  clear hB2 hbx hxb HX HP HB
  obtain ⟨r, hr⟩ : ∃ r, r = n0 % 3 := ⟨_, rfl⟩
  have f1 : (n0 : Int) % 3 = (r : Int) := by omega
  have f2 : Int.tmod (n0 : Int) 3 = (r : Int) := by rw [Int.tmod_eq_emod_of_nonneg (by omega), f1]
  have hr3 : r < 3 := by omega
  obtain ⟨bits, hbits, hb3⟩ : ∃ bits : Nat, (#[.int .i64 1, .int .i64 4, .int .i64 8] : Array Value)[r]? = some (.int .i64 (bits : Nat)) ∧ (bits = 1 ∨ bits = 4 ∨ bits = 8) := by
    have h : r = 0 ∨ r = 1 ∨ r = 2 := by omega
    rcases h with rfl | rfl | rfl
    · exact ⟨1, rfl, .inl rfl⟩
    · exact ⟨4, rfl, .inr (.inl rfl)⟩
    · exact ⟨8, rfl, .inr (.inr rfl)⟩
  have HBS := Lib.hid hb3
  have hb8 : bits ≤ 8 := by omega
  have hal : Below w2.heap.size w2 (w2.alloc (.cells #[.int .i64 1, .int .i64 4, .int .i64 8] 3)) := (Below.refl _ w2).alloc (Nat.le_refl _) _
  have k0 : w2.cell? ⟨xb, 0, none⟩ = some (.int .u8 (n0 : Nat)) := hp_cell HST2.out.box (by rw [HBX.out]; rfl)
  have k0' : (w2.alloc (.cells #[.int .i64 1, .int .i64 4, .int .i64 8] 3)).cell? ⟨xb, 0, none⟩ = some (.int .u8 (n0 : Nat)) := hp_cell (HST2.out.below hal).box (by rw [HBX.out]; rfl)
  have kl := hp_cell (j := r) (hp_new0 w2 (.cells #[.int .i64 1, .int .i64 4, .int .i64 8] 3)) hbits
  have i1 : (0 : Int) ≤ (r : Int) := by omega
  have i2 : (r : Int) < 3 := by omega
  have HST3 := Lib.hid (HST2.out.below hal)
  clear hr hbits hb3 hal HST2
  go_upto_region 4 with fail
  obtain ⟨w3, hw3⟩ : ∃ w3, w3 = w2.alloc (.cells #[.int .i64 1, .int .i64 4, .int .i64 8] 3) := ⟨_, rfl⟩
  rw [← hw3] at HST3 ⊢
  clear hw3 k0 k0' kl i1 i2 f1 f2 hr3
  obtain ⟨r1, hr1⟩ : ∃ r1, r1 = n1 % 40 := ⟨_, rfl⟩
  have f1 : (n1 : Int) % 40 = (r1 : Int) := by omega
  have f2 : Int.tmod (n1 : Int) 40 = (r1 : Int) := by rw [Int.tmod_eq_emod_of_nonneg (by omega), f1]
  obtain ⟨W, hW⟩ : ∃ W, W = 1 + r1 := ⟨_, rfl⟩
  have hW1 : 1 ≤ W ∧ W ≤ 40 := by omega
  have f3 : (1 : Int) + (r1 : Int) = (W : Int) := by omega
  have k1 : w3.cell? ⟨xb, 1, none⟩ = some (.int .u8 (n1 : Nat)) := hp_cell HST3.out.box (by rw [HBX.out]; rfl)
  clear hr1 hW
  go_upto_region 5 with fail
  clear f1 f2 f3 k1
  obtain ⟨M, hM⟩ : ∃ M, M = 1 + n2 % (if bits = 1 then 2 else 16) := ⟨_, rfl⟩
  have hM1 : 1 ≤ M ∧ M ≤ 16 ∧ M ≤ 2 ^ bits := by
    have h := HBS.out
    rcases h with rfl | rfl | rfl <;> simp at hM <;> omega
  have HM := Lib.hid hM
  clear hM
  go_cut [7] from 43 to 51 (fun s wx => s = .int .i64 (M : Nat) ∧ wx = w3)
  case first =>
    have k2 : w3.cell? ⟨xb, 2, none⟩ = some (.int .u8 (n2 : Nat)) := hp_cell HST3.out.box (by rw [HBX.out]; rfl)
    have h := HBS.out
    rcases h with rfl | rfl | rfl
    · obtain ⟨r2, hr2⟩ : ∃ r2, r2 = n2 % 2 := ⟨_, rfl⟩
      have f1 : (n2 : Int) % 2 = (r2 : Int) := by omega
      have f2 : Int.tmod (n2 : Int) 2 = (r2 : Int) := by rw [Int.tmod_eq_emod_of_nonneg (by omega), f1]
      have f3 : (1 : Int) + (r2 : Int) = (M : Int) := by have := HM.out; simp at this; omega
      have f4 : min (1 : Int) 4 = 1 := by decide
      clear hr2
      go_wp2_with fail
      go_meet
      exact ⟨rfl, rfl⟩
    · obtain ⟨r2, hr2⟩ : ∃ r2, r2 = n2 % 16 := ⟨_, rfl⟩
      have f1 : (n2 : Int) % 16 = (r2 : Int) := by omega
      have f2 : Int.tmod (n2 : Int) 16 = (r2 : Int) := by rw [Int.tmod_eq_emod_of_nonneg (by omega), f1]
      have f3 : (1 : Int) + (r2 : Int) = (M : Int) := by have := HM.out; simp at this; omega
      clear hr2
      go_wp2_with fail
      go_meet
      exact ⟨rfl, rfl⟩
    · obtain ⟨r2, hr2⟩ : ∃ r2, r2 = n2 % 16 := ⟨_, rfl⟩
      have f1 : (n2 : Int) % 16 = (r2 : Int) := by omega
      have f2 : Int.tmod (n2 : Int) 16 = (r2 : Int) := by rw [Int.tmod_eq_emod_of_nonneg (by omega), f1]
      have f3 : (1 : Int) + (r2 : Int) = (M : Int) := by have := HM.out; simp at this; omega
      have f4 : min (8 : Int) 4 = 4 := by decide
      clear hr2
      go_wp2_with fail
      go_meet
      exact ⟨rfl, rfl⟩
  case rest =>
  obtain ⟨rfl, hwc⟩ := hcut
  obtain rfl : w3 = wc := hwc.symm
  clear hwc HM
  by_cases hm0 : m = 0
  · have t1 : ((m : Int) == 0) = true := beq_iff_eq.2 (by omega)
    have HBL := Lib.hid HST3.out.bel
    clear hm0
    go_wp2_with fail
    go_ret
    exact ⟨rfl, HBL.out⟩
  have t1 : ((m : Int) == 0) = false := beq_eq_false_iff_ne.2 (by omega)
  by_cases hm1 : 1000 < m
  · have t2 : decide ((1000 : Int) < (m : Int)) = true := decide_eq_true (by omega)
    have HBL := Lib.hid HST3.out.bel
    go_wp2_with fail
    go_ret
    exact ⟨rfl, HBL.out⟩
  have t2 : decide ((1000 : Int) < (m : Int)) = false := decide_eq_false (by omega)
  obtain ⟨G, hG⟩ : ∃ G, G = n3 % 5 := ⟨_, rfl⟩
  have f1 : (n3 : Int) % 5 = (G : Int) := by omega
  have f2 : Int.tmod (n3 : Int) 5 = (G : Int) := by rw [Int.tmod_eq_emod_of_nonneg (by omega), f1]
  have hG4 : G ≤ 4 := by omega
  have k3 : w3.cell? ⟨xb, 3, none⟩ = some (.int .u8 (n3 : Nat)) := hp_cell HST3.out.box (by rw [HBX.out]; rfl)
  clear hG
  go_upto_region 10 with fail
  clear t1 t2 f1 f2 k3
  have hu2 := Go.Lib.run_convert_bytes_const (P := Tryd.prog) w3 22 5 #[.int .u8 66, .int .u8 77] 2 2 Tryd.underlying22 Tryd.underlying5
  obtain ⟨w4, hw4⟩ : ∃ w4, w4 = w3.alloc (.cells #[.int .u8 66, .int .u8 77] 5 (2, 3)) := ⟨_, rfl⟩
  have h4 : w4.heap[w3.heap.size]? = some (.cells #[.int .u8 66, .int .u8 77] 5 (2, 3)) := by rw [hw4]; exact hp_new0 _ _
  have hB4 : Below w3.heap.size w3 w4 := by rw [hw4]; exact (Below.refl _ w3).alloc (Nat.le_refl _) _
  obtain ⟨cb, w5, r5, o5, g5⟩ := run_bm w4 w3.heap.size 52 (2, 3) h4 (by omega) (by omega)
  rw [hw4] at r5
  have HR5 := Lib.hid r5
  have hB5 : Below w4.heap.size w4 w5 := (Chg.grown (S := []) g5 (fun r e => by cases e)).below (Nat.le_refl _) (by simp)
  have hs4 : w4.heap.size = w3.heap.size + 1 := by rw [hw4]; simp
  have hST5 := (HST3.out.below hB4).below hB5
  have hr5 := (o5.lt w4.heap.size rfl).2
  rw [hs4] at o5 hr5
  obtain ⟨q4, hq4⟩ : ∃ q4, q4 = 4 * M := ⟨_, rfl⟩
  obtain ⟨q5, hq5⟩ : ∃ q5, q5 = 54 + q4 := ⟨_, rfl⟩
  obtain ⟨o, ho⟩ : ∃ o, o = 54 + 4 * M + G := ⟨_, rfl⟩
  have f1 : (4 : Int) * (M : Int) = (q4 : Int) := by omega
  have f2 : (54 : Int) + (q4 : Int) = (q5 : Int) := by omega
  have f3 : (q5 : Int) + (G : Int) = (o : Int) := by omega
  obtain ⟨b16, hb16⟩ : ∃ b16, b16 = bits * 65536 := ⟨_, rfl⟩
  obtain ⟨pb, hpb⟩ : ∃ pb, pb = 1 + b16 := ⟨_, rfl⟩
  have f4 : (bits : Int) * 65536 = (b16 : Int) := by omega
  have f5 : (1 : Int) + (b16 : Int) = (pb : Int) := by omega
  have hob : o ≤ 122 ∧ pb ≤ 1000000 := by omega
  have HO := Lib.hid ho
  have HPB : Hid (pb = 1 + bits * 65536) := Lib.hid (by omega)
  have hS6 : HdZ (w3.heap.size + 1) cb w5.heap.size xb (lowS W bits M G 3) bx A m b w F0 (w5.alloc (.cells (lowS W bits M G 3) 3)) := ⟨o5.alloc _, hp_new0 _ _, hST5.below ((Below.refl _ w5).alloc (Nat.le_refl _) _)⟩
  have HS6 : Hid (HdZ (w3.heap.size + 1) cb w5.heap.size xb (lowS W bits M G 3) bx A m b w F0 (w5.alloc (.cells #[.int .i64 10, .int .i64 (o : Nat), .int .i64 14, .int .i64 40, .int .i64 18, .int .i64 (W : Nat), .int .i64 22, .int .i64 3, .int .i64 26, .int .i64 (pb : Nat), .int .i64 46, .int .i64 (M : Nat)] 3))) := Lib.hid (by rw [HO.out, HPB.out]; exact hS6)
  have hlb : w3.heap.size + 1 < w5.heap.size := hr5
  have hxw : xb < w3.heap.size + 1 := by have := lt_heap HST3.out.box; omega
  clear r5 hS6 hST5 hB5 hB4 o5 g5 h4 hs4 hr5 HST3 ho hq4 hq5 hb16 hpb
  go_upto_region 12 with (at_builtin; refine wpList_app0 rfl _ _ 22 3 rfl _ _ _ _ rfl rfl HR5.out ?_)
  clear HR5 hu2 hw4 f1 f2 f3 f4 f5
  obtain ⟨nb, hnb⟩ : ∃ nb, nb = w3.heap.size + 1 := ⟨_, rfl⟩
  obtain ⟨lb, hlbe⟩ : ∃ lb, lb = w5.heap.size := ⟨_, rfl⟩
  rw [← hnb] at HS6 hlb hxw ⊢
  rw [← hlbe] at hlb ⊢
  rw [← hlbe] at HS6
  have hwx2 : w.heap.size ≤ xb ∧ xb < nb := ⟨hwx, hxw⟩
  clear hnb hlbe
  obtain ⟨dn, hdn⟩ : ∃ dn, dn = decide (n3 / 64 % 2 = 1) := ⟨_, rfl⟩
  have h64 := and64 n3 h3
  rw [← hdn] at h64
  generalize w5.alloc (.cells #[.int .i64 10, .int .i64 (o : Nat), .int .i64 14, .int .i64 40, .int .i64 18, .int .i64 (W : Nat), .int .i64 22, .int .i64 3, .int .i64 26, .int .i64 (pb : Nat), .int .i64 46, .int .i64 (M : Nat)] 3) = w6 at *
  have H64 := Lib.hid h64
  have k3 : w6.cell? ⟨xb, 3, none⟩ = some (.int .u8 (n3 : Nat)) := hp_cell HS6.out.st.box (by rw [HBX.out]; rfl)
  clear hdn h64
  go_upto_if 82 with fail
  go_cut [] (fun wx => Hid (HdZ nb cb lb xb (lowS W bits M G (if dn = true then -3 else 3)) bx A m b w F0 wx))
  case first =>
    cases dn with
    | true =>
      have hc : Chg [lb] w6 (w6.setCell ⟨lb, 7, none⟩ (.int .i64 (-3))) := (Chg.refl [lb] w6).set (.inl (by simp)) 7 _
      have l7 := hp_cell (j := 7) HS6.out.low rfl
      have lf := hp_froz HS6.out.low
      have hlow := heap_set (i := 7) (x := .int .i64 (-3)) HS6.out.low
      have h1 : HdZ nb cb lb xb (lowS W bits M G (-3)) bx A m b w F0 (w6.setCell ⟨lb, 7, none⟩ (.int .i64 (-3))) := ⟨own_chg HS6.out.own hc (fun k hk => by cases hk; simp; omega), by rw [hlow]; rfl, HS6.out.st.chg hc (fun k hk => by simp at hk; omega) hwx HAW.out⟩
      have H1 : Hid (HdZ nb cb lb xb (lowS W bits M G (if true = true then -3 else 3)) bx A m b w F0 (w6.setCell ⟨lb, 7, none⟩ (.int .i64 (-3)))) := Lib.hid h1
      have q := H64.out
      clear h1 hlow hc
      go_wp2_with fail
      go_meet
      exact H1
    | false =>
      have H1 : Hid (HdZ nb cb lb xb (lowS W bits M G (if false = true then -3 else 3)) bx A m b w F0 w6) := Lib.hid HS6.out
      have q := H64.out
      go_wp2_with fail
      go_meet
      exact H1
  case rest =>
  obtain ⟨w7, hw7⟩ : ∃ w7, w7 = wc := ⟨_, rfl⟩
  rw [← hw7] at hcut ⊢
  have HS7 := Lib.hid hcut.out
  clear hcut hw7 HS6 k3 HO HPB
  go_wp2_with fail
  go_loopw [12] (fun q wr => ∃ j : Nat, j ≤ 6 ∧ q = .int .i64 ((2 * j : Nat) : Int) ∧ HdZ nb cb lb xb (lowS W bits M G (if dn = true then -3 else 3)) bx A m b w (hF ((psS W bits M G (hnS dn)).take j)) wr) (fun q _ => 12 - (intOf q).toNat)
  case atStart => exact ⟨0, by omega, rfl, HS7.out⟩
  case round =>
    clear HS7
    obtain ⟨j, hj, rfl, hS⟩ := hrel
    have HS := Lib.hid hS
    clear hS
    by_cases hlt : j < 6
    · obtain ⟨p, hp⟩ : ∃ p, (psS W bits M G (hnS dn))[j]? = some p := ⟨_, List.getElem?_eq_getElem (by simpa [psS] using hlt)⟩
      obtain ⟨hlw, hat, L, hlw2, hLb, hLw⟩ := lowS_at hp hb8 hM1.2.1 hG4 (by omega)
      have hft := hF_take hp
      obtain ⟨at_, v⟩ := p
      dsimp only at hlw hat hft hLw
      obtain ⟨q, hq⟩ : ∃ q, q = 2 * j := ⟨_, rfl⟩
      rw [← hq] at hlw hlw2 ⊢
      have hq20 : q ≤ 10 := by omega
      have HLW := Lib.hid (And.intro hlw hlw2)
      have HFT := Lib.hid hft
      have HQ := Lib.hid hq
      have HLX := Lib.hid hLw
      obtain ⟨f0, hf0⟩ : ∃ f0, f0 = hF ((psS W bits M G (hnS dn)).take j) := ⟨_, rfl⟩
      rw [← hf0] at HS HFT
      clear hlw hlw2 hft hp hq hf0 hLw
      go_wp2_with fail
      go_loopw [13] (fun s wx => ∃ k : Nat, k ≤ 4 ∧ s = .int .i64 (k : Nat) ∧ HdZ nb cb lb xb (lowS W bits M G (if dn = true then -3 else 3)) bx A m b w (putK f0 at_ v k) wx) (fun s _ => 4 - (intOf s).toNat)
      case atStart => exact ⟨0, by omega, rfl, by rw [putK_0]; exact HS.out⟩
      case round =>
        clear HS
        obtain ⟨k, hk, rfl, hS⟩ := hrel
        have HS := Lib.hid hS
        clear hS
        by_cases hk4 : k < 4
        · have l1 := hp_cell HS.out.low HLW.out.1
          have l2 := hp_cell HS.out.low HLW.out.2
          have b1 := HS.out.own.cellAt (at_ + k) (by omega)
          have hfr := HS.out.own.frozenAt (at_ + k)
          rw [show (cellsB (fL 54 (putK f0 at_ v k)))[at_ + k]? = some (.int .u8 ((putK f0 at_ v k (at_ + k) : Nat) : Int)) by
            rw [cellsB, List.getElem?_map, fL, List.getElem?_map, List.getElem?_range (by omega)]; rfl] at b1
          obtain ⟨z, hz⟩ : ∃ z, z = putK f0 at_ v k (at_ + k) := ⟨_, rfl⟩
          rw [← hz] at b1
          have hnx := HS.out.put (nb := nb) (lb := lb) (by omega) hwx2 HAW.out (at_ := at_) (v := v) (k := k) rfl (by omega)
          obtain ⟨x, hx⟩ : ∃ x, x = at_ + k := ⟨_, rfl⟩
          rw [← hx] at b1 hfr hnx
          have hbw := HLX.out k hk4
          obtain ⟨q8, hq8⟩ : ∃ q8, q8 = 8 * k := ⟨_, rfl⟩
          rw [← hq8] at hnx hbw
          obtain ⟨y, hy⟩ : ∃ y, y = v / 2 ^ q8 % 256 := ⟨_, rfl⟩
          rw [← hy] at hbw hnx
          have HNX := Lib.hid hnx
          have e8 : (8 : Int) * (k : Int) = (q8 : Int) := by omega
          have e9 : IntKind.i64.wrap (q8 : Int) = (q8 : Int) := IntWalk.i64_in _ (by omega)
          have hsh : q8 < 64 := by omega
          have hdv := div_bdI L q8 hLb
          have e10 : IntKind.i64.wrap (L / 2 ^ q8) = L / 2 ^ q8 := IntWalk.i64_in _ (by omega)
          have j0 : (0 : Int) ≤ (q : Int) := by omega
          have j1 : (q : Int) < 12 := by omega
          have j2 : (0 : Int) ≤ (q : Int) + 1 := by omega
          have j3 : (q : Int) + 1 < 12 := by omega
          have j4 : ((q : Int) + 1).toNat = q + 1 := by omega
          have j5 : (at_ : Int) + (k : Int) = (x : Int) := by omega
          have j6 : (x : Int) < 54 := by omega
          have j7 : (0 : Int) ≤ (x : Int) := by omega
          clear hz hx hq8 hy hnx hdv
          go_wp2_with fail
          go_region
          all_goals
            go_wp2_with fail
            go_roundw
            case rel => exact ⟨k + 1, hk4, by go_num, HNX.out⟩
            case measure => simp [intOf]; omega
        · obtain rfl : k = 4 := by omega
          have HS2 := Lib.hid HS.out
          go_wp2_with fail
          go_roundw
          case rel => exact ⟨j + 1, hlt, by have := HQ.out; go_num, by rw [HFT.out]; exact HS2.out⟩
          case measure => have := HQ.out; simp [intOf]; omega
    · obtain rfl : j = 6 := by omega
      have hS := HS.out
      rw [show (psS W bits M G (hnS dn)).take 6 = psS W bits M G (hnS dn) from rfl] at hS
      obtain ⟨s9, hs9⟩ : ∃ s9 : Int, s9 = ((2 * 6 : Nat) : Int) := ⟨_, rfl⟩
      have t9 : decide (s9 < 12) = false := by simp; omega
      rw [← hs9]
      have hL0 : RwS nb xb bx A m b w 54 (fL 54 (hF (psS W bits M G (hnS dn)))) (.slice (some ⟨nb, 0, none⟩) 54 cb) wr := ⟨hS.own, hS.st⟩
      have hnbl : nb ≤ wr.heap.size := Nat.le_of_lt (hS.own.lt nb rfl).2
      have HL0 : Hid (RwS nb xb bx A m b w (54 + 4 * 0) (fL 54 (hF (psS W bits M G (hnS dn))) ++ colS 0) (.slice (some ⟨nb, 0, none⟩) 54 cb) wr ∧ nb ≤ wr.heap.size) := Lib.hid ⟨by rw [colS, List.append_nil]; exact hL0, hnbl⟩
      clear hs9 hS HS hL0 hnbl
      go_wp2_with fail
      obtain ⟨pre, hpre⟩ : ∃ pre, pre = fL 54 (hF (psS W bits M G (hnS dn))) := ⟨_, rfl⟩
      rw [← hpre] at HL0
      have HPRE := Lib.hid hpre
      clear hpre
      go_loopw [10, 14] (fun s10 s14 wr => ∃ i : Nat, i ≤ M ∧ s14 = .int .i64 (i : Nat) ∧ RwS nb xb bx A m b w (54 + 4 * i) (pre ++ colS i) s10 wr ∧ nb ≤ wr.heap.size) (fun _ s14 _ => M - (intOf s14).toNat)
      case atStart => exact ⟨0, by omega, rfl, HL0.out⟩
      case round =>
        clear HL0
        obtain ⟨i, hi, rfl, hS, hnb2⟩ := hrel
        have HS := Lib.hid hS
        clear hS
        by_cases hin : i < M
        · obtain ⟨v8, w8, r8, hL8, hnb8⟩ := HS.out.app hwx2 hnb2 HAW.out [3 * i + 1, 3 * i + 2, 3 * i + 3, 9] 4 rfl (by omega) (by omega)
          have HL8 : Hid (RwS nb xb bx A m b w (54 + 4 * (i + 1)) (pre ++ colS (i + 1)) v8 w8) := Lib.hid (by
            rw [colS, ← List.append_assoc]
            exact hL8)
          obtain ⟨q, hq⟩ : ∃ q, q = 3 * i := ⟨_, rfl⟩
          rw [← hq] at r8
          obtain ⟨q1, hq1⟩ : ∃ q1, q1 = q + 1 := ⟨_, rfl⟩
          obtain ⟨q2, hq2⟩ : ∃ q2, q2 = q + 2 := ⟨_, rfl⟩
          obtain ⟨q3, hq3⟩ : ∃ q3, q3 = q + 3 := ⟨_, rfl⟩
          rw [← hq1, ← hq2, ← hq3] at r8
          have HR8 : Hid ((Builtin.append_ #[22, 22] 22 #[u10, .slice (some ⟨wr.heap.size, 0, none⟩) 4 4]).run Tryd.prog (wr.alloc (.cells #[.int .u8 (q1 : Nat), .int .u8 (q2 : Nat), .int .u8 (q3 : Nat), .int .u8 9] 5)) = .ok v8 w8) := Lib.hid r8
          have g0 : (3 : Int) * (i : Int) = (q : Int) := by omega
          have g1 : (q : Int) + 1 = (q1 : Int) := by omega
          have g2 : (q : Int) + 2 = (q2 : Int) := by omega
          have g3 : (q : Int) + 3 = (q3 : Int) := by omega
          have g4 : IntKind.u8.wrap (q1 : Int) = (q1 : Int) := by rw [IntKind.wrap_u8']; omega
          have g5 : IntKind.u8.wrap (q2 : Int) = (q2 : Int) := by rw [IntKind.wrap_u8']; omega
          have g6 : IntKind.u8.wrap (q3 : Int) = (q3 : Int) := by rw [IntKind.wrap_u8']; omega
          have hqb : q ≤ 100 ∧ q1 ≤ 100 ∧ q2 ≤ 100 ∧ q3 ≤ 100 := by omega
          clear hq hq1 hq2 hq3 r8 hL8
          go_wp2_with (at_builtin; refine wpList_app rfl _ _ 22 rfl _ _ _ _ rfl rfl HR8.out ?_)
          go_roundw
          case rel => exact ⟨i + 1, hin, by go_num, HL8.out, hnb8⟩
          case measure => simp [intOf]; omega
        · obtain rfl : M = i := by omega
          have hOW := HS.out.own
          obtain ⟨hl0, hf⟩ := id hOW
          rcases hf with ⟨_, h9⟩ | ⟨gb, cpb, cur, rfl, -, -, -⟩
          · exact absurd h9 (by omega)
          obtain ⟨vz, wz, rz, hLz, hnbz⟩ := HS.out.zeros hwx2 hnb2 HAW.out G (by omega) (by omega)
          have HRZ := Lib.hid rz
          obtain ⟨O, hO⟩ : ∃ O, O = 54 + 4 * M + G := ⟨_, rfl⟩
          rw [← hO] at hLz
          have HO := Lib.hid hO
          have hOb : O ≤ 122 := by omega
          obtain ⟨Kt, hKt⟩ : ∃ Kt : Nat → Nat, Kt = fun t => b (t % m) % 2 ^ bits := ⟨_, rfl⟩
          have HKT : Hid (∀ t, Kt t = b (t % m) % 2 ^ bits) := Lib.hid (fun t => by rw [hKt])
          have HZ0 : Hid (RwS nb xb bx A m b w (O + 0 * bmWide W bits) (pre ++ (colS M ++ (List.replicate G 0 ++ rowsS bits W (fun y x => Kt (y * W + x)) 0))) vz wz ∧ nb ≤ wz.heap.size) := Lib.hid ⟨by rw [rowsS, List.append_nil, Nat.zero_mul, Nat.add_zero, ← List.append_assoc]; exact hLz, hnbz⟩
          clear hKt hO hLz hnbz rz hOW hl0
          go_upto_block 6 with (at_builtin; refine wpList_app0 rfl _ _ 22 3 rfl _ _ _ _ rfl rfl HRZ.out ?_)
          obtain ⟨V, hV⟩ : ∃ V, V = bmWide W bits := ⟨_, rfl⟩
          have hVb : V ≤ 40 := by
            rw [hV]
            have h1 : W * bits ≤ 40 * 8 := Nat.mul_le_mul hW1.2 hb8
            unfold bmWide
            omega
          rw [← hV] at HZ0
          have HV := Lib.hid hV
          clear HRZ HS hV
          refine small_rows A m cap b HBB hm hcap hm0 hm1 w HAW xb bx bits W M G O V nb hwx2 HBS hb8 hW1 hM1 hG4 pre hOb HV hVb Kt HKT vz wz HZ0 _ _ _ _ _ _ _ _ _ _ _ _ _ _ _ _ _ _ _ _ _ _ _ _ _ _ _ _ _ _ _ _ _ _ _ _ _ _ _ _ _ _ _ _ _ _ _ _ _ _ _ _ _ _ _ _ _ _ _ _ _ _ _ _ _ _ _ _ _ _ _ _ _ _ _ _ _ _ _ _ _ _ _ _ _ _ _ _ _ _ _ _ _ _ _ _ _ _ _ _ _ _ _ _ _ _ _ _ _ _ _ _ _ _ _ _ _ _ _ _ _ _ _ _ _ _ _ _ _ _ _ _ _ _ _ _ _ _ _ _ _ _ _ _ _ _ _ _ _ _ _ _ _ _ _ _ _ _ _ _ _ _ _ _ _ _ _ _ _ _ _ _ _ _ _ _ _ _ _ _ _ _ _ _ _ _ _ _ _ _ _ _ _ _ _ _ _ _ _ _ _ _ _ _ _ _ _ _ _ _ _ _ _ _ _ _ _ _ _ _ _ _ _ _ _ _ _ _ _ _ _ _ _ _ _ _ _ _ _ _ _ _ _ _ _ _ _ _ _ _ _ _ _ _ _ _ _ _ _ _ _ _ _ _ _ _ _ _ _ _ _ _ _ ?_
          intro v w9 u17 u18 u19 u20 u138 u139 u140 u141 u142 u143 u144 u145 u146 u147 u148 u149 u150 u151 u152 u153 u154 u155 u156 u157 u158 u159 u160 u161 u162 u163 u164 u165 u166 u167 u168 u169 u170 u171 u172 u173 u174 u175 u176 u177 u178 u179 u180 u181 u182 u183 u184 u185 u186 u187 u188 HSX
          dsimp only [Exit.then, Exit.inBlock]
          refine (show ∀ a w', Code.wp Tryd.prog _ _ a w' → _ from by assumption) _ _ ?_
          refine wp_same ?_
          exact small_tail n0 n1 n2 n3 h3 A m cap b HBB hm hcap hm0 hm1 w HTW xb bx HBX bits W M G O V nb dn HBS hb8 hW1 hM1 hG4 H64 pre HPRE HO hOb HV hVb Kt HKT v w9 HSX _ _ _ _ _ _ _ _ _ _ _ _ _ _ _ _ _ _ _ _ _ _ _ _ _ _ _ _ _ _ _ _ _ _ _ _ _ _ _ _ _ _ _ _ _ _ _ _ _ _ _ _ _ _ _ _ _ _ _ _ _ _ _ _ _ _ _ _ _ _ _ _ _ _ _ _ _ _ _ _ _ _ _ _ _ _ _ _ _ _ _ _ _ _ _ _ _ _ _ _ _ _ _ _ _ _ _ _ _ _ _ _ _ _ _ _ _ _ _ _ _ _ _ _ _ _ _ _ _ _ _ _ _ _ _ _ _ _ _ _ _ _ _ _ _ _ _ _ _ _ _ _ _ _ _ _ _ _ _ _ _ _ _ _ _ _ _ _ _ _ _ _ _ _ _ _ _ _ _ _ _ _ _ _ _ _ _ _ _ _ _ _ _ _ _ _ _ _ _ _ _ _ _ _ _ _ _ _ _ _ _ _ _ _ _ _ _ _ _ _ _ _ _ _ _ _ _ _ _ _ _ _ _ _ _ _ _ _ _ _ _ _ _ _ _ _ _ _ _ _ _ _ _ _ _ _ _ _ _ _ _ _ _ _ _ _ _ _ _ _ _ _ _ _ _
end Go.Proofs.YtdooefnckdklmaaDoor
