/- Layer 18's awake. -/
import Derived.Test.YtdooefnckdklmaaDoorM15

namespace Go.Proofs.YtdooefnckdklmaaDoor
set_option maxRecDepth 100000
set_option linter.unusedVariables false
open Go.ChangeShapes Go.WideShapes Go.ChangeAt Go.RowKit

theorem gl_1 {l m : List Nat} {j : Nat} (h : j < l.length) : gl (l ++ m) j = gl l j := by unfold gl; rw [List.getElem?_append_left h]
theorem gl_2 (l m : List Nat) (j : Nat) : gl (l ++ m) (l.length + j) = gl m j := by unfold gl; rw [List.getElem?_append_right (by omega), Nat.add_sub_cancel_left]
theorem gl_f {n j : Nat} {f : Nat → Nat} (h : j < n) : gl (fL n f) j = f j := by simp [gl, fL, h]
theorem gl_lt {l : List Nat} (h : ∀ x ∈ l, x < 256) (j : Nat) : gl l j < 256 := by
  unfold gl
  cases hq : l[j]? with
  | none => simp
  | some x => exact h x (List.mem_of_getElem? hq)
theorem hF_lt (ps : List (Nat × Nat)) (x : Nat) : hF ps x < 256 := by
  unfold hF
  have key : ∀ (r : List (Nat × Nat)) (g : Nat → Nat), g x < 256 → (r.foldl (fun f p => putK f p.1 p.2 4) g) x < 256 := by
    intro r
    induction r with
    | nil => intro g h; exact h
    | cons q r ih =>
      intro g h
      rw [List.foldl_cons]
      refine ih _ ?_
      unfold putK
      split
      · exact Nat.mod_lt _ (by omega)
      · exact h
  refine key ps F0 ?_
  unfold F0
  split
  · omega
  · split <;> omega
theorem plL_lt {c : Nat → Nat} (hc : ∀ i, c i < 65536) (W H : Nat) : ∀ x ∈ plL c W H, x < 256 := by
  intro x hx
  unfold plL at hx
  rcases List.mem_append.1 hx with h | h
  · obtain ⟨j, _, rfl⟩ := List.mem_map.1 h
    exact hF_lt _ _
  · obtain ⟨j, _, rfl⟩ := List.mem_map.1 h
    unfold plB
    have := hc (4 * W * (H - 1 - j / (4 * W)) + j % (4 * W))
    omega
theorem plD_of (c : Nat → Nat) (W H : Nat) (hW : W ≤ 256) (hH : H ≤ 256) : PlD (gl (plL c W H)) c W H H := by
  have hb : ∀ j, j < 122 → gl (plL c W H) j = hF (psP W H) j := fun j hj => by
    rw [plL, gl_1 (by rw [fL_len]; exact hj), gl_f hj]
  have hl : ∀ k p, p + k ≤ 122 → lowD (gl (plL c W H)) p k = lowD (hF (psP W H)) p k := fun k p h => lowD_congr k p (fun j a b => hb j (by omega))
  obtain ⟨a0, a1, a2, a3, a4, a5, a6, a7, a8, a9⟩ := hF_P W H hW hH
  exact ⟨by rw [hb _ (by omega)]; exact a0, by rw [hb _ (by omega)]; exact a1, by rw [hl _ _ (by omega)]; exact a2, by rw [hl _ _ (by omega)]; exact a3, by rw [hl _ _ (by omega)]; exact a4, by rw [hl _ _ (by omega)]; exact a5, by rw [hl _ _ (by omega)]; exact a6, by rw [hl _ _ (by omega)]; exact a7, by rw [hl _ _ (by omega)]; exact a8, fun i hi => by rw [hl _ _ (by omega)]; exact a9 i hi, fun t ht => by
    have h := gl_2 (fL 122 (hF (psP W H))) (fL (4 * W * H) (plB c W H)) t
    rw [fL_len] at h
    rw [plL, h, gl_f ht]⟩
theorem byt_own {w : World} {base n cap : Nat} {A : Option Addr} {l : List Nat} (h : w.ownsRow base 5 1 (.slice A n cap) n (cellsB l)) (hl : l.length = n) : Byt w A n (gl l) ∧ n ≤ cap ∧ cap ≤ maxLen ∧ ∀ a, A = some a → a.block < w.heap.size := by
  obtain ⟨-, A', cap', he, h1, h2, h3⟩ := Sl.of_own h
  injection he with e1 e2 e3
  subst e1 e3
  refine ⟨fun hn => ?_, h1, h2, fun a ha => ?_⟩
  · obtain ⟨b, off, rfl, hlt, hc⟩ := h3 hn
    refine ⟨b, off, rfl, hlt, fun j hj => ?_⟩
    rw [hc j (by omega)]
    have hj2 : j < l.length := by omega
    simp [cellsB, gl, hj2]
  · subst ha
    exact (own_blk h).2
theorem pix_eqB {w : World} {A : Option Addr} {n : Nat} {c c' : Nat → Nat} (h : Pix w A n c) (he : ∀ j, j < n → c j = c' j) : Pix w A n c' := fun hn => by
  obtain ⟨bk, off, h1, h2, h3⟩ := h hn
  exact ⟨bk, off, h1, h2, fun j hj => by rw [h3 j hj, he j hj]⟩
theorem size11 : sizeE ((1 : Nat) : Int) ((1 : Nat) : Int) = 0 := by decide
theorem may11 : mayB ((1 : Nat) : Int) ((1 : Nat) : Int) (4 * 1) = true := by decide
def cW : Nat → Nat := up1 (up1 (fun _ => 0) 2 257) 3 514
theorem cW_ok (i : Nat) : cW i % 257 = 0 ∧ cW i < 65536 := by
  unfold cW up1
  dsimp only
  split
  · omega
  · split <;> omega
theorem fits11 : fitsB ((1 : Nat) : Int) ((1 : Nat) : Int) (4 * 1) cW 3 = true := by decide
theorem same_self18 {a b : Int} {n : Nat} (c : Nat → Nat) (h : mayB a b n = true) : sameB a b n c a b n c = true := by
  simp [sameB, h, allEq]
theorem bmG_nil (d : Nat → Nat) : bmG d 0 = (noB, 2) := by
  have e : bmErr d 0 = 2 := by rw [bmErr, if_neg (by omega), if_pos (by omega)]
  rw [bmG, e, if_pos (by decide)]
theorem run_555 : runM 31744 = (10, 5, true) := by decide +kernel
set_option maxRecDepth 100000 in
set_option maxHeartbeats 4000000 in
theorem awake18 (w : World) (hT : TabW w) : Calls Tryd.prog 10 #[] w fun e w' => e = .returned (.bool true) ∧ Below w.heap.size w w' := by
  have HTW := Lib.hid hT
  clear hT
  go_enter Tryd.func10, Tryd.ntmps10
  go_wp2_with fail
  refine (new_ref (1 : Nat) (1 : Nat) (by unfold In64; omega) (by unfold In64; omega) _).mono ?_
  rintro e w3 ⟨hB, ⟨_, v, rfl, hown⟩ | ⟨h, _⟩⟩
  rotate_left
  · exact absurd size11 h
  have h4N : (4 * ((1 : Nat) : Int) * ((1 : Nat) : Int)).toNat = 4 * 1 := rfl
  rw [h4N, zeros_16] at hown
  obtain ⟨A', cap', rfl, hn', hc', _, hO⟩ := NewRow.of_row hown
  obtain ⟨g, cur, rfl, hgB, _⟩ := hO (by omega)
  have hgr : g < w3.heap.size := (hO.lt g (by omega) rfl).2
  have hal : Below w3.heap.size w3 (w3.alloc (.cells #[.int .i64 1, .int .i64 1, .slice (some ⟨g, 0, none⟩) 4 cap'] 26)) := (Below.refl _ w3).alloc (Nat.le_refl _) _
  have HR4 := Lib.hid (hp_new0 w3 (.cells #[.int .i64 1, .int .i64 1, .slice (some ⟨g, 0, none⟩) 4 cap'] 26))
  have HB5 := Lib.hid (hB.trans (hal.mono hB.size))
  have hO5 := hO.below hal
  have HO5 := Lib.hid hO5
  have hs3 := hB.size
  clear hal hO hB hown
  go_wp2_with fail
  generalize w3.alloc (.cells #[.int .i64 1, .int .i64 1, .slice (some ⟨g, 0, none⟩) 4 cap'] 26) = w5 at *
  obtain ⟨rb, hrb⟩ : ∃ rb, rb = w3.heap.size := ⟨_, rfl⟩
  rw [← hrb] at HR4 hs3 hgr ⊢
  clear hrb
  have k2 := hp_cell (j := 2) HR4.out rfl
  obtain ⟨c2, f2, hgB2, hgl⟩ := own_cellP HO5.out (show 2 < 4 * 1 by omega)
  obtain ⟨c3, f3, _, _⟩ := own_cellP HO5.out (show 3 < 4 * 1 by omega)
  have hO6 : Own (w.heap.size + 1) (((w5.setCell ⟨g, 2, none⟩ (.int .u16 257)).setCell ⟨g, 3, none⟩ (.int .u16 514)).drew) (some ⟨g, 0, none⟩) (4 * 1) cW := (own_put (own_put HO5.out 2 257) 3 514).below ((Below.refl _ _).drew)
  have hR6 : (((w5.setCell ⟨g, 2, none⟩ (.int .u16 257)).setCell ⟨g, 3, none⟩ (.int .u16 514)).drew).heap[rb]? = some (.cells #[.int .i64 1, .int .i64 1, .slice (some ⟨g, 0, none⟩) 4 cap'] 26 (0, 0)) := hp_oth (hp_oth HR4.out (show ¬rb = g by omega)) (show ¬rb = g by omega)
  have hB6 : Below w.heap.size w (((w5.setCell ⟨g, 2, none⟩ (.int .u16 257)).setCell ⟨g, 3, none⟩ (.int .u16 514)).drew) := ((HB5.out.setCell (p := ⟨g, 2, none⟩) (by simp; omega) (.int .u16 (257 : Nat))).setCell (p := ⟨g, 3, none⟩) (by simp; omega) (.int .u16 (514 : Nat))).drew
  have HO6 := Lib.hid hO6
  have HR6 := Lib.hid hR6
  have HB6 := Lib.hid hB6
  clear hO6 hR6 hB6 hO5
  go_region
  all_goals
    generalize (((w5.setCell ⟨g, 2, none⟩ (.int .u16 257)).setCell ⟨g, 3, none⟩ (.int .u16 514)).drew) = w6 at *
    clear c2 f2 c3 f3 k2
    have k0 := hp_cell (j := 0) HR6.out rfl
    have k1 := hp_cell (j := 1) HR6.out rfl
    have k2 := hp_cell (j := 2) HR6.out rfl
    go_wp2_with fail
    refine (plain18_yes 1 1 1 (some ⟨g, 0, none⟩) cap' cW (fun i => (cW_ok i).2) rfl (by omega) (by omega) (by omega) fits11 hn' hc' w6 HO6.out.pix (fun a ha => by cases ha; exact (own_cellP HO6.out (show 0 < 4 * 1 by omega)).2.2.2)).mono ?_
    rintro e w7 ⟨A7, cap7, rfl, hOw, hB7⟩
    obtain ⟨hBy, hn7, hc7, hA7⟩ := byt_own hOw rfl
    have hPD := plD_of cW 1 1 (by omega) (by omega)
    obtain ⟨hbw, hbh, c9, hG, hpx⟩ := hPD.read false (by decide) (fun i _ => cW_ok i) size11 (plL cW 1 1).length (plL_len cW 1 1) (by rw [plL_len]; omega)
    have hTW7 := (HTW.out.below HB6.out).below hB7
    have hDe := decode_b A7 (plL cW 1 1).length cap7 (gl (plL cW 1 1)) (gl_lt (plL_lt (fun i => (cW_ok i).2) 1 1)) hn7 hc7 w7 hA7 hBy hTW7
    rw [hG] at hDe
    obtain ⟨m, hm⟩ : ∃ m, m = (plL cW 1 1).length := ⟨_, rfl⟩
    rw [← hm] at hDe ⊢
    have HDE := Lib.hid hDe
    have HTW7 := Lib.hid hTW7
    have HPX := Lib.hid (And.intro hbw (And.intro hbh hpx))
    have hR7 := hp_below HR6.out hB7 (lt_heap HR6.out)
    have HO7 := Lib.hid (HO6.out.below hB7)
    have HB7 := Lib.hid (HB6.out.trans (hB7.mono HB6.out.size))
    have HR7 := Lib.hid hR7
    clear hDe hm hOw hB7 hR7 k0 k1 k2 hBy hPD hbw hbh hG hpx hTW7
    go_wp2_with fail
    refine HDE.out.mono ?_
    rintro e w8 ⟨hB8, ⟨_, _, A8, cap8, n4, hn4, hn8, hc8, rfl, hO8'⟩ | ⟨h, _⟩⟩
    rotate_left
    · exact absurd rfl h
    obtain ⟨hbw, hbh, hpx⟩ := HPX.out
    rw [hbw, hbh] at hn4 ⊢
    obtain rfl : n4 = 4 * 1 := by omega
    have hpe : ∀ j, j < 4 * 1 → c9 j = cW j := fun j hj => by
      have h := hpx 0 (by omega) j (by omega)
      simpa [posR, bmY] using h
    have hP8 := pix_eqB hO8'.pix hpe
    have hR8 := hp_below HR7.out hB8 (lt_heap HR7.out)
    have hO8 := HO7.out.below hB8
    have hal8 : Below w8.heap.size w8 (w8.alloc (.cells #[.int .i64 1, .int .i64 1, .slice A8 4 cap8] 26)) := (Below.refl _ w8).alloc (Nat.le_refl _) _
    have hQ9 := hp_new0 w8 (.cells #[.int .i64 1, .int .i64 1, .slice A8 4 cap8] 26)
    have hR9 := hp_below hR8 hal8 (lt_heap hR8)
    have hB9 := HB7.out.trans ((hB8.trans (hal8.mono hB8.size)).mono HB7.out.size)
    have HP9 := Lib.hid (hP8.below hal8)
    have HO9 := Lib.hid (hO8.below hal8).pix
    have HB9 := Lib.hid hB9
    have HQ9 := Lib.hid hQ9
    have HR9 := Lib.hid hR9
    have HTW9 := Lib.hid (HTW.out.below hB9)
    clear hR8 hO8 hal8 hQ9 hR9 hB9 hP8 hB8 hO8' hpe hpx hbw hbh
    go_wp2_with fail
    obtain ⟨qb, hqb⟩ : ∃ qb, qb = w8.heap.size := ⟨_, rfl⟩
    rw [← hqb] at HQ9 ⊢
    generalize w8.alloc (.cells #[.int .i64 1, .int .i64 1, .slice A8 4 cap8] 26) = w9 at *
    clear hqb
    refine (decode_b none 0 0 (fun _ => 0) (fun _ => by omega) (Nat.le_refl _) (by simp [maxLen]) w9 (fun a ha => by cases ha) (fun h => absurd h (by omega)) HTW9.out).mono ?_
    rw [bmG_nil]
    rintro e wa ⟨hBa, ⟨h, _⟩ | ⟨_, rfl⟩⟩
    · exact absurd h (by decide)
    have hala : Below wa.heap.size wa (wa.alloc (.cells #[.int .i64 0, .int .i64 0, .slice none 0 0] 26)) := (Below.refl _ wa).alloc (Nat.le_refl _) _
    have hBB := hBa.trans (hala.mono hBa.size)
    have HRa := Lib.hid (hp_below HR9.out hBB (lt_heap HR9.out))
    have HQa := Lib.hid (hp_below HQ9.out hBB (lt_heap HQ9.out))
    have HPa := Lib.hid (HP9.out.below hBB)
    have HOa := Lib.hid (HO9.out.below hBB)
    have HBa := Lib.hid (HB9.out.trans (hBB.mono HB9.out.size))
    have HTa := Lib.hid (HTW.out.below HBa.out)
    clear hBa hala hBB
    go_wp2_with fail
    generalize wa.alloc (.cells #[.int .i64 0, .int .i64 0, .slice none 0 0] 26) = wb at *
    refine (run_prog 31744 (by omega) wb HTa.out).mono ?_
    rw [run_555]
    rintro e wc ⟨rfl, kk, rfl⟩
    obtain ⟨wc, hwc⟩ : ∃ wc, wc = wb.drewN kk := ⟨_, rfl⟩
    have hbc : Below wb.heap.size wb wc := hwc ▸ bel_drewN wb kk
    have hRc := hp_below HRa.out hbc (lt_heap HRa.out)
    have hQc := hp_below HQa.out hbc (lt_heap HQa.out)
    have HPc := Lib.hid (HPa.out.below hbc)
    have HOc := Lib.hid (HOa.out.below hbc)
    have HBc := Lib.hid (HBa.out.trans (hbc.mono HBa.out.size))
    rw [← hwc]
    have k0 := hp_cell (j := 0) hRc rfl
    have k1 := hp_cell (j := 1) hRc rfl
    have k2 := hp_cell (j := 2) hRc rfl
    have q0 := hp_cell (j := 0) hQc rfl
    have q1 := hp_cell (j := 1) hQc rfl
    have q2 := hp_cell (j := 2) hQc rfl
    clear hbc hRc hQc hwc
    go_wp2_with fail
    refine (same_ref (1 : Nat) (1 : Nat) (some ⟨g, 0, none⟩) (4 * 1) cap' cW (1 : Nat) (1 : Nat) A8 (4 * 1) cap8 cW (by unfold In64; omega) (by unfold In64; omega) (by unfold In64; omega) (by unfold In64; omega) hn' hc' hn8 hc8 _ HOc.out HPc.out).mono ?_
    rintro e w10 ⟨rfl, hB10⟩
    rw [same_self18 cW may11]
    have HF := Lib.hid (HBc.out.trans (hB10.mono HBc.out.size))
    clear hB10
    go_wp2
    go_ret
    exact ⟨rfl, HF.out⟩
end Go.Proofs.YtdooefnckdklmaaDoor
