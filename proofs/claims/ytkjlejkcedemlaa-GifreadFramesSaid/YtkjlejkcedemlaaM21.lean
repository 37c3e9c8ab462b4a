/- GifreadTold: the walk. -/
import Derived.Test.YtkjlejkcedemlaaM20

namespace Go.Proofs.Ytkjlejkcedemlaa
set_option maxRecDepth 100000
set_option linter.unusedVariables false
open Go.ChangeShapes Go.WideShapes Go.ChangeAt Go.RowKit

theorem cellsB_set (l : List Nat) (j x : Nat) : (cellsB l).set j (.int .u8 (x : Nat)) = cellsB (l.set j x) := by
  simp [cellsB, List.map_set]
/-- A file whose first bytes are others. -/
theorem gz_set (l : List Nat) (j x i : Nat) (hj : j < l.length) : gz (l.set j x) i = if i = j then x else gz l i := by
  unfold gz
  rw [List.getElem?_set]
  by_cases h : j = i
  · subst h; simp [hj]
  · rw [if_neg h, if_neg (fun e => h e.symm)]
theorem set_lt {l : List Nat} (h : ∀ v ∈ l, v < 256) {j x : Nat} (hx : x < 256) : ∀ v ∈ l.set j x, v < 256 := fun v hv => by
  rcases List.mem_or_eq_of_mem_set hv with h1 | h1
  · exact h v h1
  · omega
/-- Decode of a file that is told so. -/
theorem dec_told (k : Nat) (hk : k ≠ 0) (l : List Nat) (hl : ∀ v ∈ l, v < 256) (m : Nat) (hm : l.length = m) (hg : gifG (gz l) m = (noP, k)) (g cap B : Nat) (w : World) (ho : w.ownsRow B 5 1 (.slice (some ⟨g, 0, none⟩) m cap) m (cellsB l)) :
    Calls Try.prog 9 #[.slice (some ⟨g, 0, none⟩) m cap] w fun e w' => e = .returned (.tuple #[.agg #[.int .i64 0, .int .i64 0, .slice none 0 0], .int .i64 (k : Nat)]) ∧ Below w.heap.size w w' := by
  subst hm
  obtain ⟨A', cap', he, q1, q2, q3, q4⟩ := byt_of_row ho
  injection he with e1 e2 e3
  subst e1 e3
  exact decode_err k hk _ _ _ (gz l) (gz_lt hl) hg q1 q2 q3 w q4
theorem told_none {l : List Nat} (h1 : 14 ≤ l.length) (h2 : l.length ≤ 200000) (hg : isGif (gz l) = true) : gifG (gz ((l.set 6 0).set 7 0)) l.length = (noP, 6) := by
  have e : ∀ i, gz ((l.set 6 0).set 7 0) i = if i = 7 then 0 else if i = 6 then 0 else gz l i := fun i => by
    rw [gz_set _ _ _ _ (by rw [List.length_set]; omega), gz_set _ _ _ _ (by omega)]
  refine gif_none _ _ (by omega) (by omega) ?_ (by rw [e]; simp) (by rw [e]; simp)
  unfold isGif at hg ⊢
  rw [e, e, e, e, e, e]
  exact hg
theorem told_form {l : List Nat} (h1 : 14 ≤ l.length) (h2 : l.length ≤ 200000) (j x : Nat) (hj : (j = 4 ∧ x = 56) ∨ (j = 0 ∧ x = 103)) : gifG (gz (l.set j x)) l.length = (noP, 4) := by
  have e : ∀ i, gz (l.set j x) i = if i = j then x else gz l i := fun i => gz_set _ _ _ _ (by omega)
  refine gif_form _ _ (by omega) (by omega) ?_
  unfold isGif
  rw [e, e, e, e, e, e]
  refine decide_eq_false fun h => ?_
  rcases hj with ⟨rfl, rfl⟩ | ⟨rfl, rfl⟩
  · simp at h
  · simp at h
set_option maxRecDepth 100000 in
set_option maxHeartbeats 4000000 in
theorem gtold16_walk (a b : Int) (A : Option Addr) (n cap : Nat) (c : Nat → Nat) (hc : ∀ i, c i < 65536) (ha : In64 a) (hb : In64 b) (hn : n ≤ cap) (hmax : cap ≤ maxLen) (ct kd : Nat) (hct : ct < 65536) (hkd : kd < 256) (w : World) (hP : Pix w A n c) :
    Calls Try.prog 7 #[.agg #[.int .i64 a, .int .i64 b, .slice A n cap], .int .u16 (ct : Nat), .int .u8 (kd : Nat)] w fun e w' => e = .returned (.bool true) ∧ Below w.heap.size w w' := by
  have HB := Lib.hid ((Below.refl _ w).alloc (Nat.le_refl _) (.cells #[.int .i64 a, .int .i64 b, .slice A n cap] 26))
  have HX := Lib.hid (hp_new0 w (.cells #[.int .i64 a, .int .i64 b, .slice A n cap] 26))
  have HP := Lib.hid (hP.below HB.out)
  have HC := Lib.hid hc
  clear hP hc
  go_enter Try.func7, Try.ntmps7
  go_wp2_with fail
  generalize w.alloc (.cells #[.int .i64 a, .int .i64 b, .slice A n cap] 26) = w1 at *
  refine (awake16 _).mono ?_
  rintro e w2 ⟨rfl, hB2⟩
  have HB2 := Lib.hid (HB.out.trans (hB2.mono HB.out.size))
  have HX2 := Lib.hid (hp_below HX.out hB2 (lt_heap HX.out))
  have HP2 := Lib.hid (HP.out.below hB2)
  clear hB2
  have k0 := hp_cell (j := 0) HX2.out rfl
  have k1 := hp_cell (j := 1) HX2.out rfl
  have k2 := hp_cell (j := 2) HX2.out rfl
  by_cases hbig : 3000 < n
  · have hbg : decide ((3000 : Int) < (n : Int)) = true := decide_eq_true (by omega)
    go_wp2_with fail
    go_ret
    exact ⟨rfl, HB2.out⟩
  have hbg : decide ((3000 : Int) < (n : Int)) = false := decide_eq_false (by omega)
  cases hf : fitsB a b n c 2 with
  | false =>
    go_wp2_with fail
    refine (plain_no a b A n cap c HC.out ha hb hf hn hmax _ HP2.out).mono ?_
    rintro e w3 ⟨rfl, hB3⟩
    have HB3 := Lib.hid (HB2.out.trans (hB3.mono HB2.out.size))
    clear hB3 k0 k1 k2 hf
    go_wp2_with fail
    go_ret
    exact ⟨rfl, HB3.out⟩
  | true =>
  obtain ⟨W, H, rfl, rfl, hn4, hW, hH, hWH, hn0⟩ := pic16 hf
  have HF2 := Lib.hid hf
  have HN4 := Lib.hid hn4
  clear hf hn4
  go_wp2_with fail
  refine (plain_pix W H n HN4.out hn0 A cap c HC.out HF2.out hn hmax _ HP2.out).mono ?_
  rintro e w3 ⟨A3, cap3, m, hm3, hm14, hmb, rfl, hN3, hB3⟩
  have HB3 := Lib.hid (HB2.out.trans (hB3.mono HB2.out.size))
  have HN3 := Lib.hid hN3
  obtain ⟨M, hM⟩ : ∃ M, M = (gifP c W H []).length := ⟨_, rfl⟩
  rw [← hM] at hm3 hm14
  subst hm3
  have HML := Lib.hid hM
  clear hB3 k0 k1 k2 hN3 hM
  have z0 : ((M : Int) + 1 == 0) = false := beq_eq_false_iff_ne.2 (by omega)
  obtain ⟨K, hK⟩ : ∃ K, K = ct % M := ⟨_, rfl⟩
  have hKM : K < M := by rw [hK]; exact Nat.mod_lt _ (by omega)
  have j0 : IntKind.i64.wrap ((M : Int) + 1 - 1) = (M : Int) := by rw [Int.add_sub_cancel]; exact IntWalk.i64_in _ (by omega)
  have j1 : (M : Int) + 1 - 1 = (M : Int) := by omega
  have j2 : (ct : Int) % (M : Int) = (K : Int) := by rw [hK]; simp
  have j3 : Int.tmod (ct : Int) (M : Int) = (K : Int) := by rw [Int.tmod_eq_emod_of_nonneg (by omega), j2]
  have j4 : ((M : Int) == 0) = false := beq_eq_false_iff_ne.2 (by omega)
  have hfits : fitsB (W : Nat) (H : Nat) (4 * (W * H)) c 2 = true := by rw [← HN4.out]; exact HF2.out
  have HFT := Lib.hid hfits
  have HCUT := Lib.hid (gifP_cut HC.out hfits [59] K (by rw [← HML.out]; exact hKM))
  have hh := gifP_head HC.out hfits [59]
  have hlt := gifP_lt HC.out hfits [59] (by simp)
  have hle : (gifP c W H [59]).length = M + 1 := by rw [gifP_tail, List.length_append, ← HML.out]; rfl
  obtain ⟨F, hF⟩ : ∃ F, F = gifP c W H [59] := ⟨_, rfl⟩
  rw [← hF] at hh hlt hle
  have HNF : Hid (NewB w2.heap.size w3 (M + 1) A3 cap3 (gz F)) := Lib.hid (by rw [hF]; exact HN3.out)
  have HCF : Hid (gifG (gz F) K = (noP, 2)) := Lib.hid (by rw [hF]; exact HCUT.out)
  have HH := Lib.hid hh
  have HLT := Lib.hid hlt
  have HLE := Lib.hid hle
  have rs := run_hi A3 (M + 1) cap3 K (by have := HN3.out.le; omega)
  clear hK hfits hh hlt hle hF HCUT HN3 HML HFT
  go_wp2_with fail
  clear rs j0 j1 j2 j3 j4
  have hPK : Byt w3 A3 K (gz F) := fun hn => by
    obtain ⟨bk, off, h1, h2, h3⟩ := HNF.out.byt (by omega)
    exact ⟨bk, off, h1, h2, fun j hj => h3 j (by omega)⟩
  refine (decode_err 2 (by omega) A3 K cap3 (gz F) (gz_lt HLT.out) HCF.out (by have := HNF.out.le; omega) HNF.out.max HNF.out.nil w3 hPK).mono ?_
  rintro e w4 ⟨rfl, hB4⟩
  have hal : Below w4.heap.size w4 (w4.alloc (.cells #[.int .i64 0, .int .i64 0, .slice none 0 0] 26)) := (Below.refl _ w4).alloc (Nat.le_refl _) _
  have hb5 := hB4.trans (hal.mono hB4.size)
  have HB5 := Lib.hid (HB3.out.trans (hb5.mono HB3.out.size))
  have HN5 := Lib.hid (HNF.out.chgB hb5)
  clear hB4 hal hb5 hPK z0
  go_upto_region 10 with fail
  generalize w4.alloc (.cells #[.int .i64 0, .int .i64 0, .slice none 0 0] 26) = w5 at *
  obtain ⟨v8, w8, r8, o8⟩ := front_new HN5.out.byt (k := M + 1) (cap := cap3) (Nat.le_refl _) F HLE.out (fun j hj => rfl) HN5.out.nil (by omega)
  obtain ⟨o8r, b8⟩ := o8
  rw [HLE.out] at o8r
  have o8c := o8r
  obtain ⟨hl8, hf8⟩ := o8r
  rcases hf8 with ⟨rfl, h0⟩ | ⟨g, cap8, cur8, rfl, hg1, hg2, hg3, hg4, hg5, hg6⟩
  · exact absurd h0 (by omega)
  have HR8 := Lib.hid r8
  have HO8 := Lib.hid o8c
  have hfz := own_froz o8c
  have HB8 := Lib.hid (HB5.out.trans (b8.mono HB5.out.size))
  have hgw : w.heap.size ≤ g := Nat.le_trans HB5.out.size hg1
  have hgl := lt_heap hg2
  have hM2 : ∀ j, j < 8 → ∃ u, w8.cell? ⟨g, j, none⟩ = some u := fun j hj => by
    have hj2 : j < (cellsB F).length := by rw [cellsB_len, HLE.out]; omega
    exact ⟨_, row_get o8c (List.getElem?_eq_getElem hj2)⟩
  obtain ⟨u0, c0⟩ := hM2 0 (by omega)
  obtain ⟨u4, c4⟩ := hM2 4 (by omega)
  obtain ⟨u6, c6⟩ := hM2 6 (by omega)
  obtain ⟨u7, c7⟩ := hM2 7 (by omega)
  clear hl8 hg2 hg3 hg4 hg5 hg6 r8 o8c b8 hM2
  go_upto_region 11 with (at_builtin; ((with_reducible refine wpList_app (o := ⟨some 41, _, _, _, _, _⟩) ?_ (.tmp 39) (.tmp 40) 22 ?_ _ _ _ _ ?_ ?_ HR8.out ?_); rfl; rfl; rfl; rfl))
  obtain ⟨q, hq⟩ : ∃ q, q = kd % 3 := ⟨_, rfl⟩
  have f1 : (kd : Int) % 3 = (q : Int) := by omega
  have f2 : Int.tmod (kd : Int) 3 = (q : Int) := by rw [Int.tmod_eq_emod_of_nonneg (by omega), f1]
  have hq3 : q = 0 ∨ q = 1 ∨ q = 2 := by omega
  clear hq
  rcases hq3 with rfl | rfl | rfl
  · have HG := told_none (l := F) (by rw [HLE.out]; omega) (by rw [HLE.out]; omega) HH.out
    rw [HLE.out] at HG
    have HO := row_set (j := 7) (x := .int .u8 ((0 : Nat) : Int)) (row_set (j := 6) (x := .int .u8 ((0 : Nat) : Int)) HO8.out)
    rw [cellsB_set, cellsB_set] at HO
    have HBL := (HB8.out.setCell (p := ⟨g, 6, none⟩) hgw (.int .u8 ((0 : Nat) : Int))).setCell (p := ⟨g, 7, none⟩) hgw (.int .u8 ((0 : Nat) : Int))
    have HG2 := Lib.hid HG
    have HO2 := Lib.hid HO
    have HBL2 := Lib.hid HBL
    clear HG HO HBL
    go_wp2_with fail
    refine (dec_told 6 (by omega) ((F.set 6 0).set 7 0) (set_lt (set_lt HLT.out (by omega)) (by omega)) (M + 1) (by simp [HLE.out]) HG2.out g cap8 _ _ HO2.out).mono ?_
    rintro e w9 ⟨rfl, hB9⟩
    have HF := Lib.hid ((HBL2.out.trans (hB9.mono HBL2.out.size)).alloc (Nat.le_trans HBL2.out.size hB9.size) (.cells #[.int .i64 0, .int .i64 0, .slice none 0 0] 26))
    clear hB9
    go_wp2
    go_ret
    exact ⟨rfl, HF.out⟩
  · have HG := told_form (l := F) (by rw [HLE.out]; omega) (by rw [HLE.out]; omega) 4 56 (.inl ⟨rfl, rfl⟩)
    rw [HLE.out] at HG
    have HO := row_set (j := 4) (x := .int .u8 ((56 : Nat) : Int)) HO8.out
    rw [cellsB_set] at HO
    have HBL := HB8.out.setCell (p := ⟨g, 4, none⟩) hgw (.int .u8 ((56 : Nat) : Int))
    have HG2 := Lib.hid HG
    have HO2 := Lib.hid HO
    have HBL2 := Lib.hid HBL
    clear HG HO HBL
    go_wp2_with fail
    refine (dec_told 4 (by omega) (F.set 4 56) (set_lt HLT.out (by omega)) (M + 1) (by simp [HLE.out]) HG2.out g cap8 _ _ HO2.out).mono ?_
    rintro e w9 ⟨rfl, hB9⟩
    have HF := Lib.hid ((HBL2.out.trans (hB9.mono HBL2.out.size)).alloc (Nat.le_trans HBL2.out.size hB9.size) (.cells #[.int .i64 0, .int .i64 0, .slice none 0 0] 26))
    clear hB9
    go_wp2
    go_ret
    exact ⟨rfl, HF.out⟩
  · have HG := told_form (l := F) (by rw [HLE.out]; omega) (by rw [HLE.out]; omega) 0 103 (.inr ⟨rfl, rfl⟩)
    rw [HLE.out] at HG
    have HO := row_set (j := 0) (x := .int .u8 ((103 : Nat) : Int)) HO8.out
    rw [cellsB_set] at HO
    have HBL := HB8.out.setCell (p := ⟨g, 0, none⟩) hgw (.int .u8 ((103 : Nat) : Int))
    have HG2 := Lib.hid HG
    have HO2 := Lib.hid HO
    have HBL2 := Lib.hid HBL
    clear HG HO HBL
    go_wp2_with fail
    refine (dec_told 4 (by omega) (F.set 0 103) (set_lt HLT.out (by omega)) (M + 1) (by simp [HLE.out]) HG2.out g cap8 _ _ HO2.out).mono ?_
    rintro e w9 ⟨rfl, hB9⟩
    have HF := Lib.hid ((HBL2.out.trans (hB9.mono HBL2.out.size)).alloc (Nat.le_trans HBL2.out.size hB9.size) (.cells #[.int .i64 0, .int .i64 0, .slice none 0 0] 26))
    clear hB9
    go_wp2
    go_ret
    exact ⟨rfl, HF.out⟩
end Go.Proofs.Ytkjlejkcedemlaa
