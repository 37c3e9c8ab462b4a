/- BmpreadPlain: the walk. Rows told by runs: plain law. Rows told by runs: the file's bytes, and what decoding it draws. BmpreadRuns: the walk's states. -/
import Derived.Test.YtdooefnckdklmaaDoorM17

namespace Go.Proofs.YtdooefnckdklmaaDoor
set_option maxRecDepth 100000
set_option linter.unusedVariables false
open Go.ChangeShapes Go.WideShapes Go.ChangeAt Go.RowKit

theorem pos_surj {W H : Nat} (down : Bool) (hW : 1 ≤ W) (q : Nat) (hq : q < W * H) : ∃ t, t < W * H ∧ posR W H down t = q := by
  have hm := Nat.mod_lt q hW
  have hk : q / W < H := Nat.div_lt_of_lt_mul hq
  have hd := Nat.div_add_mod q W
  obtain ⟨Y, hY⟩ : ∃ Y, Y = q / W := ⟨_, rfl⟩
  rw [← hY] at hk hd
  have hy : bmY H down Y < H := by unfold bmY; split <;> omega
  have hyy : bmY H down (bmY H down Y) = Y := by
    unfold bmY
    split <;> omega
  refine ⟨bmY H down Y * W + q % W, ?_, ?_⟩
  · have h1 : (bmY H down Y + 1) * W ≤ H * W := Nat.mul_le_mul_right W hy
    rw [Nat.add_mul, Nat.one_mul, Nat.mul_comm H] at h1
    omega
  · rw [posR_at hm, hyy, Nat.mul_comm]
    exact hd
theorem read_same {c' c : Nat → Nat} {W H N : Nat} (hW : 1 ≤ W) (hN : W * H = N) (h : ∀ t, t < W * H → ∀ i, i < 4 → c' (4 * posR W H false t + i) = c (4 * posR W H false t + i)) (j : Nat) (hj : j < 4 * N) : c' j = c j := by
  obtain ⟨t, ht, he⟩ := pos_surj (W := W) (H := H) false hW (j / 4) (by omega)
  have h1 := h t ht (j % 4) (Nat.mod_lt _ (by omega))
  rw [he, Nat.div_add_mod] at h1
  exact h1
theorem read_turned {c' c : Nat → Nat} {W H : Nat} (h : ∀ t, t < W * H → ∀ i, i < 4 → c' (4 * posR W H true t + i) = c (4 * posR W H false t + i)) (x y : Nat) (hx : x < W) (hy : y < H) : px c' (y * W + x) = px c ((H - 1 - y) * W + x) := by
  have ht : y * W + x < W * H := by
    have h1 : (y + 1) * W ≤ H * W := Nat.mul_le_mul_right W hy
    rw [Nat.add_mul, Nat.one_mul, Nat.mul_comm H] at h1
    omega
  have h1 := fun i hi => h (y * W + x) ht i hi
  have e1 : posR W H true (y * W + x) = y * W + x := by rw [posR_at hx]; rfl
  have e2 : posR W H false (y * W + x) = (H - 1 - y) * W + x := by rw [posR_at hx]; rfl
  rw [e1, e2] at h1
  have a0 := h1 0 (by omega)
  have a1 := h1 1 (by omega)
  have a2 := h1 2 (by omega)
  have a3 := h1 3 (by omega)
  simp only [Nat.add_zero] at a0
  unfold px
  rw [a0, a1, a2, a3]
theorem turnD {d c : Nat → Nat} {W H : Nat} (h : PlD d c W H H) (hH : 1 ≤ H ∧ H ≤ 256) : PlD (putK d 22 (4294967296 - H) 4) c W H (4294967296 - H) := by
  have o : ∀ p k, (p + k ≤ 22 ∨ 26 ≤ p) → lowD (putK d 22 (4294967296 - H) 4) p k = lowD d p k := fun p k hp => lowD_congr k p (fun j a b => by rw [putK, if_neg (by omega)])
  refine ⟨by rw [putK, if_neg (by omega)]; exact h.b0, by rw [putK, if_neg (by omega)]; exact h.b1, by rw [o _ _ (by omega)]; exact h.off, by rw [o _ _ (by omega)]; exact h.size, by rw [o _ _ (by omega)]; exact h.wide, ?_, by rw [o _ _ (by omega)]; exact h.planes, by rw [o _ _ (by omega)]; exact h.bits, by rw [o _ _ (by omega)]; exact h.kind, fun i hi => by rw [o _ _ (by omega)]; exact h.masks i hi, fun t ht => by rw [putK, if_neg (by omega)]; exact h.pix t ht⟩
  rw [lowD_four, putK, if_pos (by omega), putK, if_pos (by omega), putK, if_pos (by omega), putK, if_pos (by omega)]
  simp only [Nat.sub_self, Nat.mul_zero, Nat.pow_zero, Nat.div_one, Nat.add_sub_cancel_left]
  rw [show (2 : Nat) ^ (8 * 1) = 256 from rfl, show (2 : Nat) ^ (8 * 2) = 65536 from rfl, show (2 : Nat) ^ (8 * 3) = 16777216 from rfl]
  omega
theorem neg_byte (H k : Nat) (hH : 1 ≤ H ∧ H ≤ 256) (hk : k < 4) : IntKind.u8.wrap (-(H : Int) / 2 ^ (8 * k)) = (((4294967296 - H) / 2 ^ (8 * k) % 256 : Nat) : Int) := by
  have h : k = 0 ∨ k = 1 ∨ k = 2 ∨ k = 3 := by omega
  rw [IntKind.wrap_u8']
  rcases h with rfl | rfl | rfl | rfl
  · rw [show (2 : Int) ^ (8 * 0) = 1 from rfl, show (2 : Nat) ^ (8 * 0) = 1 from rfl]; omega
  · rw [show (2 : Int) ^ (8 * 1) = 256 from rfl, show (2 : Nat) ^ (8 * 1) = 256 from rfl]; omega
  · rw [show (2 : Int) ^ (8 * 2) = 65536 from rfl, show (2 : Nat) ^ (8 * 2) = 65536 from rfl]; omega
  · rw [show (2 : Int) ^ (8 * 3) = 16777216 from rfl, show (2 : Nat) ^ (8 * 3) = 16777216 from rfl]; omega
theorem put_up (f : Nat → Nat) (v k : Nat) : up1 (putK f 22 v k) (22 + k) (v / 2 ^ (8 * k) % 256) = putK f 22 v (k + 1) := by
  funext j
  unfold up1 putK
  by_cases hj : j = 22 + k
  · rw [if_pos hj, if_pos (by omega), hj, Nat.add_sub_cancel_left]
  · rw [if_neg hj]
    by_cases hc : 22 ≤ j ∧ j < 22 + k
    · rw [if_pos hc, if_pos (by omega)]
    · rw [if_neg hc, if_neg (by omega)]
theorem getV_xy {W H n : Nat} {c : Nat → Nat} (hm : mayB (W : Nat) (H : Nat) n = true) {x y : Nat} (hx : x < W) (hy : y < H) : getV (W : Nat) (H : Nat) n c (x : Nat) (y : Nat) = px c (y * W + x) := by
  rw [getV, if_pos (inB_xy hm hx hy)]
  have e : (((y : Nat) : Int) * ((W : Nat) : Int) + ((x : Nat) : Int)).toNat = y * W + x := by
    rw [← Int.natCast_mul, ← Int.natCast_add, Int.toNat_natCast]
  rw [e]
/-- While the height is turned. -/
structure PlT (W H N L g3 cap3 qb cap8 base : Nat) (A A8 : Option Addr) (cap : Nat) (c : Nat → Nat) (l : List Nat) (w : World) (k : Nat) (wr : World) : Prop where
  row : ∃ l', l'.length = L ∧ gl l' = putK (gl l) 22 (4294967296 - H) k ∧ (∀ x ∈ l', x < 256) ∧ wr.ownsRow base 5 1 (.slice (some ⟨g3, 0, none⟩) L cap3) L (cellsB l')
  q : wr.heap[qb]? = some (.cells #[.int .i64 (W : Nat), .int .i64 (H : Nat), .slice A8 (4 * N) cap8] 26 (0, 0))
  qp : Pix wr A8 (4 * N) c
  r : wr.heap[w.heap.size]? = some (.cells #[.int .i64 (W : Nat), .int .i64 (H : Nat), .slice A (4 * N) cap] 26 (0, 0))
  rp : Pix wr A (4 * N) c
  bel : Below w.heap.size w wr
theorem pix_chg {S : List Nat} {w w' : World} {A : Option Addr} {n : Nat} {c : Nat → Nat} (h : Pix w A n c) (hc : Chg S w w') (hA : ∀ a, A = some a → a.block ∉ S) : Pix w' A n c := fun hn => by
  obtain ⟨bk, of, he, hlt, hcl⟩ := h hn
  have hb := hA _ he
  exact ⟨bk, of, he, Nat.lt_of_lt_of_le hlt hc.size, fun j hj => cell_chg hc hb (hcl j hj)⟩
theorem PlT.put {W H N L g3 cap3 qb cap8 base : Nat} {A A8 : Option Addr} {cap : Nat} {c : Nat → Nat} {l : List Nat} {w : World} {k : Nat} {wr : World} (h : PlT W H N L g3 cap3 qb cap8 base A A8 cap c l w k wr) (hL : 122 ≤ L) (hk : k < 4) (hq : qb ≠ g3) (hw : w.heap.size < g3) (hA : ∀ a, A = some a → a.block ≠ g3) (hA8 : ∀ a, A8 = some a → a.block ≠ g3) : PlT W H N L g3 cap3 qb cap8 base A A8 cap c l w (k + 1) (wr.setCell ⟨g3, 22 + k, none⟩ (.int .u8 (((4294967296 - H) / 2 ^ (8 * k) % 256 : Nat) : Int))) := by
  have hc : Chg [g3] wr (wr.setCell ⟨g3, 22 + k, none⟩ (.int .u8 (((4294967296 - H) / 2 ^ (8 * k) % 256 : Nat) : Int))) := (Chg.refl [g3] wr).set (.inl (by simp)) _ _
  obtain ⟨l', hl, hg, hlt, ho⟩ := h.row
  have h1 := (ho.stored (22 + k) (.int .u8 (((4294967296 - H) / 2 ^ (8 * k) % 256 : Nat) : Int))).1
  rw [← cellsB_set] at h1
  refine ⟨⟨l'.set (22 + k) ((4294967296 - H) / 2 ^ (8 * k) % 256), by rw [List.length_set]; exact hl, by rw [gl_set (by omega), hg, put_up], fun x hx => ?_, h1⟩, hp_chg h.q hc (by simpa using hq), pix_chg h.qp hc (fun a ha => by simpa using hA8 a ha), hp_chg h.r hc (by simp; omega), pix_chg h.rp hc (fun a ha => by simpa using hA a ha), h.bel.setCell (p := ⟨g3, 22 + k, none⟩) (by simp; omega) _⟩
  rcases List.mem_or_eq_of_mem_set hx with h | rfl
  · exact hlt x h
  · exact Nat.mod_lt _ (by omega)
theorem neg_bd (H k : Nat) (hH : 1 ≤ H ∧ H ≤ 256) (hk : k < 4) : IntKind.i64.wrap (-(H : Int) / 2 ^ (8 * k)) = -(H : Int) / 2 ^ (8 * k) := by
  have h : k = 0 ∨ k = 1 ∨ k = 2 ∨ k = 3 := by omega
  refine IntWalk.i64_in _ ?_
  rcases h with rfl | rfl | rfl | rfl
  · rw [show (2 : Int) ^ (8 * 0) = 1 from rfl]; omega
  · rw [show (2 : Int) ^ (8 * 1) = 256 from rfl]; omega
  · rw [show (2 : Int) ^ (8 * 2) = 65536 from rfl]; omega
  · rw [show (2 : Int) ^ (8 * 3) = 16777216 from rfl]; omega
set_option maxRecDepth 100000 in
set_option maxHeartbeats 8000000 in
theorem plain_walk18 (a b : Int) (A : Option Addr) (n cap : Nat) (c : Nat → Nat) (hc : ∀ i, c i < 65536) (ha : In64 a) (hb : In64 b) (hn : n ≤ cap) (hmax : cap ≤ maxLen) (w : World) (hP : Pix w A n c) (hT : TabW w) :
    Calls Tryd.prog 5 #[.agg #[.int .i64 a, .int .i64 b, .slice A n cap]] w fun e w' => e = .returned (.bool true) ∧ Below w.heap.size w w' := by
  have HB := Lib.hid ((Below.refl _ w).alloc (Nat.le_refl _) (.cells #[.int .i64 a, .int .i64 b, .slice A n cap] 26))
  have HX := Lib.hid (hp_new0 w (.cells #[.int .i64 a, .int .i64 b, .slice A n cap] 26))
  have HP := Lib.hid (hP.below HB.out)
  have HC := Lib.hid hc
  have HTW := Lib.hid hT
  clear hP hc hT
  go_enter Tryd.func5, Tryd.ntmps5
  go_wp2_with fail
  generalize w.alloc (.cells #[.int .i64 a, .int .i64 b, .slice A n cap] 26) = w1 at *
  refine (awake18 _ (HTW.out.below HB.out)).mono ?_
  rintro e w2 ⟨rfl, hB2⟩
  have HB2 := Lib.hid (HB.out.trans (hB2.mono HB.out.size))
  have HX2 := Lib.hid (hp_below HX.out hB2 (lt_heap HX.out))
  have HP2 := Lib.hid (HP.out.below hB2)
  clear hB2
  have k0 := hp_cell (j := 0) HX2.out rfl
  have k1 := hp_cell (j := 1) HX2.out rfl
  have k2 := hp_cell (j := 2) HX2.out rfl
  by_cases hbig : 8000 < n
  · have hbg : decide ((8000 : Int) < (n : Int)) = true := decide_eq_true (by omega)
    go_wp2_with fail
    go_ret
    exact ⟨rfl, HB2.out⟩
  have hbg : decide ((8000 : Int) < (n : Int)) = false := decide_eq_false (by omega)
  cases hf : fitsB a b n c 3 with
  | false =>
    have HFI := Lib.hid hf
    clear hf
    go_wp2_with fail
    refine (plain18_no a b A n cap c HC.out ha hb HFI.out hn hmax _ HP2.out).mono ?_
    rintro e w3 ⟨rfl, hB3⟩
    have HB3 := Lib.hid (HB2.out.trans (hB3.mono HB2.out.size))
    clear hB3 k0 k1 k2
    go_wp2_with fail
    go_ret
    exact ⟨rfl, HB3.out⟩
  | true =>
  have HFI := Lib.hid hf
  obtain ⟨W, H, N, rfl, rfl, hn4, hab, hW, hH, hN, hz0, h257⟩ := pic_nat hf
  subst hn4
  have hN1 : 1 ≤ N := by
    have : 1 * 1 ≤ W * H := Nat.mul_le_mul hW.1 hH.1
    omega
  have HAB := Lib.hid hab
  have HZ := Lib.hid hz0
  have hL4 : 4 * W * H = 4 * N := by rw [Nat.mul_assoc, hab]
  have HL4 := Lib.hid hL4
  have hAw2 : ∀ x, A = some x → x.block < w2.heap.size := fun x hx => by
    obtain ⟨bk, of, h1, h2, _⟩ := HP2.out (by omega)
    rw [h1] at hx
    cases hx
    exact h2
  have HY := Lib.hid (plain18_yes W H N A cap c HC.out hab hW hH hN hf hn hmax w2 HP2.out hAw2)
  have H257 := Lib.hid h257
  clear hf h257 hz0 hab hL4 hAw2
  go_wp2_with fail
  refine HY.out.mono ?_
  rintro e w3 ⟨A3, cap3, rfl, hOw, hB3⟩
  have hPD := plD_of c W H hW.2 hH.2
  have hll := plL_len c W H
  rw [HL4.out] at hll
  have hlt := plL_lt HC.out W H
  obtain ⟨l, hle⟩ : ∃ l, l = plL c W H := ⟨_, rfl⟩
  rw [← hle] at hOw hPD hll hlt ⊢
  obtain ⟨L, hL⟩ : ∃ L, L = l.length := ⟨_, rfl⟩
  rw [← hL] at hOw hll ⊢
  obtain ⟨hBy, hn3, hc3, hA3⟩ := byt_own hOw hL.symm
  have HB3 := Lib.hid (HB2.out.trans (hB3.mono HB2.out.size))
  have HX3 := Lib.hid (hp_below HX2.out hB3 (lt_heap HX2.out))
  have HP3 := Lib.hid (HP2.out.below hB3)
  have hc257 : ∀ i, i < 4 * W * H → c i % 257 = 0 ∧ c i < 65536 := fun i hi => ⟨H257.out i (by rw [HL4.out] at hi; exact hi), HC.out i⟩
  have hLb : 122 ≤ L ∧ L ≤ 262144 := by omega
  have hLe : L = 122 + 4 * W * H := by rw [HL4.out]; exact hll
  obtain ⟨hbw, hbh, c9, hG, hpx⟩ := hPD.read false (by rw [sgnV, if_pos (by omega)]; rfl) hc257 HZ.out L hLe hLb.2
  obtain ⟨hbw2, hbh2, c10, hG2, hpx2⟩ := (turnD hPD hH).read true (by rw [sgnV, if_neg (by omega), if_pos rfl]; omega) hc257 HZ.out L hLe hLb.2
  have hDe := decode_b A3 L cap3 (gl l) (gl_lt hlt) hn3 hc3 w3 hA3 hBy (HTW.out.below HB3.out)
  rw [hG] at hDe
  have HDE := Lib.hid hDe
  have HG2 := Lib.hid (And.intro hG2 (And.intro hbw2 (And.intro hbh2 hpx2)))
  have HG1 := Lib.hid (And.intro hbw (And.intro hbh (fun j hj => read_same hW.1 HAB.out hpx j hj)))
  obtain ⟨hl9, h9 | ⟨g3, cap9, cur9, he9, hg3w, hg3, hrest⟩⟩ := id hOw
  · exact absurd h9.2 (by omega)
  injection he9 with z1 z2 z3
  subst z1 z3
  have hown3 := own_le' (show w2.heap.size ≤ w2.heap.size from Nat.le_refl _) hOw
  have HOWN := Lib.hid hOw
  have HLE := Lib.hid hL
  have HLT := Lib.hid hlt
  have HC3 := Lib.hid hc3
  have hwx : w.heap.size < w2.heap.size := lt_heap HX2.out
  have HPB := Lib.hid HP2.out
  clear hll hLe hOw hPD hlt hle hL hBy hA3 hB3 hc3 HY k0 k1 k2 HX HX2 HP HP2 HB HB2 hG hG2 hpx hpx2 hbw hbh hbw2 hbh2 hDe hrest hg3 hl9 hown3 hc257
  have e3 : ((L : Int) == 0) = false := beq_eq_false_iff_ne.2 (by omega)
  have e4 : ¬L = 0 := by omega
  have k0 := hp_cell (j := 0) HX3.out rfl
  have k1 := hp_cell (j := 1) HX3.out rfl
  have k2 := hp_cell (j := 2) HX3.out rfl
  go_wp2_with fail
  refine HDE.out.mono ?_
  rintro e w4 ⟨hB4, ⟨_, _, A8, cap8, n4, hn4, hn8, hc8, rfl, hO8⟩ | ⟨h, _⟩⟩
  rotate_left
  · exact absurd rfl h
  obtain ⟨hbw, hbh, hsm⟩ := HG1.out
  rw [hbw, hbh] at hn4 ⊢
  have hWHn : (W : Int) * (H : Int) = (N : Int) := by rw [← HAB.out]; simp
  obtain rfl : n4 = 4 * N := by rw [Int.mul_assoc, hWHn] at hn4; omega
  have hP8 := pix_eqB hO8.pix hsm
  have hal : Below w4.heap.size w4 (w4.alloc (.cells #[.int .i64 (W : Nat), .int .i64 (H : Nat), .slice A8 (4 * N) cap8] 26)) := (Below.refl _ w4).alloc (Nat.le_refl _) _
  have hb5 := hB4.trans (hal.mono hB4.size)
  have HQ5 := Lib.hid (hp_new0 w4 (.cells #[.int .i64 (W : Nat), .int .i64 (H : Nat), .slice A8 (4 * N) cap8] 26))
  have HP8 := Lib.hid (hP8.below hal)
  have HA8 := Lib.hid (fun (x : Addr) (hx : A8 = some x) => (show x.block ≠ g3 from by
    obtain ⟨bk, cur, h1, h2, _⟩ := hO8 (by omega)
    rw [h1] at hx
    cases hx
    have := (HOWN.out.lt g3 rfl).2
    show bk ≠ g3
    omega))
  have HX5 := Lib.hid (hp_below HX3.out hb5 (lt_heap HX3.out))
  have HP5 := Lib.hid (HP3.out.below hb5)
  have HB5 := Lib.hid (HB3.out.trans (hb5.mono HB3.out.size))
  have HO5 := Lib.hid (own_none HOWN.out hb5)
  have hq5 : w4.heap.size ≠ g3 := by have := (HOWN.out.lt g3 rfl).2; have := hB4.size; omega
  clear hB4 hal hb5 hP8 hO8 hsm hbw hbh hWHn hn4 k0 k1 k2 e3 HDE HG1
  go_upto_region 9 with fail
  obtain ⟨qb, hqb⟩ : ∃ qb, qb = w4.heap.size := ⟨_, rfl⟩
  rw [← hqb] at HQ5 hq5 ⊢
  generalize w4.alloc (.cells #[.int .i64 (W : Nat), .int .i64 (H : Nat), .slice A8 (4 * N) cap8] 26) = w5 at *
  clear hqb
  have k1 := hp_cell (j := 1) HX5.out rfl
  have hneg : IntKind.i64.wrap (-(H : Int)) = -(H : Int) := IntWalk.i64_in _ (by omega)
  go_wp2_with fail
  clear k1 hneg
  have hAg : ∀ x, A = some x → x.block ≠ g3 := fun x hx => by
    obtain ⟨bk, of, h1, h2, _⟩ := HPB.out (by omega)
    rw [h1] at hx
    cases hx
    show bk ≠ g3
    omega
  have HAG := Lib.hid hAg
  have HS0 : Hid (PlT W H N L g3 cap3 qb cap8 w2.heap.size A A8 cap c l w 0 w5) := Lib.hid ⟨⟨l, HLE.out.symm, by rw [putK_0], HLT.out, HO5.out⟩, HQ5.out, HP8.out, HX5.out, HP5.out, HB5.out⟩
  clear hAg HO5 HQ5 HP8 HX5 HP5 HB5 HX3 HP3 HB3
  go_loopw [7] (fun s wr => ∃ k : Nat, k ≤ 4 ∧ s = .int .i64 (k : Nat) ∧ PlT W H N L g3 cap3 qb cap8 w2.heap.size A A8 cap c l w k wr) (fun s _ => 4 - (intOf s).toNat)
  case atStart => exact ⟨0, by omega, rfl, HS0.out⟩
  case round =>
    clear HS0
    obtain ⟨k, hk, rfl, hS⟩ := hrel
    have HS := Lib.hid hS
    clear hS
    by_cases hk4 : k < 4
    · obtain ⟨l', hl', hg', hlt', ho'⟩ := HS.out.row
      have b1 := ho'.cellAt (22 + k) (by omega)
      have hfr := ho'.frozenAt (22 + k)
      rw [show (cellsB l')[22 + k]? = some (.int .u8 ((gl l' (22 + k) : Nat) : Int)) by
        have hj2 : 22 + k < l'.length := by omega
        simp [cellsB, gl, hj2]] at b1
      obtain ⟨z, hz⟩ : ∃ z, z = gl l' (22 + k) := ⟨_, rfl⟩
      rw [← hz] at b1
      have hnx := HS.out.put hLb.1 hk4 hq5 (by omega) HAG.out HA8.out
      have hbw := neg_byte H k hH hk4
      have e10 := neg_bd H k hH hk4
      obtain ⟨x, hx⟩ : ∃ x, x = 22 + k := ⟨_, rfl⟩
      rw [← hx] at b1 hfr hnx
      obtain ⟨q8, hq8⟩ : ∃ q8, q8 = 8 * k := ⟨_, rfl⟩
      rw [← hq8] at hnx hbw e10
      obtain ⟨y, hy⟩ : ∃ y, y = (4294967296 - H) / 2 ^ q8 % 256 := ⟨_, rfl⟩
      rw [← hy] at hbw hnx
      have HNX := Lib.hid hnx
      have e8 : (8 : Int) * (k : Int) = (q8 : Int) := by omega
      have e9 : IntKind.i64.wrap (q8 : Int) = (q8 : Int) := IntWalk.i64_in _ (by omega)
      have hsh : q8 < 64 := by omega
      have j5 : (22 : Int) + (k : Int) = (x : Int) := by omega
      have hxL : x < L := by omega
      have j6 : (x : Int) < (L : Int) := by omega
      have j7 : (0 : Int) ≤ (x : Int) := by omega
      clear hz hx hq8 hy hnx hl' hg' hlt' ho'
      go_wp2_with fail
      go_roundw
      case rel => exact ⟨k + 1, hk4, by go_num, HNX.out⟩
      case measure => simp [intOf]; omega
    · obtain rfl : k = 4 := by omega
      obtain ⟨l', hl', hg', hlt', ho'⟩ := HS.out.row
      obtain ⟨hBy, hn3', hc3', hA3⟩ := byt_own ho' hl'
      obtain ⟨hG2, hbw2, hbh2, hpx2⟩ := HG2.out
      have hDe := decode_b (some ⟨g3, 0, none⟩) L cap3 (gl l') (gl_lt hlt') hn3' hc3' wr hA3 hBy (HTW.out.below HS.out.bel)
      rw [hg', hG2] at hDe
      have HDE := Lib.hid hDe
      have HPX := Lib.hid (And.intro hbw2 (And.intro hbh2 hpx2))
      have HQ6 := Lib.hid HS.out.q
      have HQP6 := Lib.hid HS.out.qp
      have HR6 := Lib.hid HS.out.r
      have HRP6 := Lib.hid HS.out.rp
      have HB6 := Lib.hid HS.out.bel
      clear hl' hg' hlt' ho' hBy hc3' hA3 hG2 hbw2 hbh2 hpx2 hDe HS HG2 HOWN HA8 HAG HPB
      go_wp2_with fail
      refine HDE.out.mono ?_
      rintro e w6 ⟨hB6, ⟨_, _, A9, cap9, n4, hn4, hn9, hc9, rfl, hO9⟩ | ⟨h, _⟩⟩
      rotate_left
      · exact absurd rfl h
      obtain ⟨hbw, hbh, hpx⟩ := HPX.out
      rw [hbw, hbh] at hn4 ⊢
      have hWHn : (W : Int) * (H : Int) = (N : Int) := by rw [← HAB.out]; simp
      obtain rfl : n4 = 4 * N := by rw [Int.mul_assoc, hWHn] at hn4; omega
      have hal : Below w6.heap.size w6 (w6.alloc (.cells #[.int .i64 (W : Nat), .int .i64 (H : Nat), .slice A9 (4 * N) cap9] 26)) := (Below.refl _ w6).alloc (Nat.le_refl _) _
      have hb7 := hB6.trans (hal.mono hB6.size)
      have HP7 := Lib.hid (hp_new0 w6 (.cells #[.int .i64 (W : Nat), .int .i64 (H : Nat), .slice A9 (4 * N) cap9] 26))
      have HPP7 := Lib.hid ((hO9.below hal).pix)
      have HQ7 := Lib.hid (hp_below HQ6.out hb7 (lt_heap HQ6.out))
      have HQP7 := Lib.hid (HQP6.out.below hb7)
      have HR7 := Lib.hid (hp_below HR6.out hb7 (lt_heap HR6.out))
      have HRP7 := Lib.hid (HRP6.out.below hb7)
      have HB7 := Lib.hid (HB6.out.trans (hb7.mono HB6.out.size))
      have HTU := Lib.hid (fun x y hx hy => read_turned hpx x y hx hy)
      clear hB6 hal hb7 hO9 hpx hbw hbh hWHn hn4 HDE HPX HQ6 HQP6 HR6 HRP6 HB6
      go_upto_region 15 with fail
      obtain ⟨pb, hpb⟩ : ∃ pb, pb = w6.heap.size := ⟨_, rfl⟩
      rw [← hpb] at HP7 ⊢
      generalize w6.alloc (.cells #[.int .i64 (W : Nat), .int .i64 (H : Nat), .slice A9 (4 * N) cap9] 26) = w7 at *
      clear hpb
      have k0 := hp_cell (j := 0) HQ7.out rfl
      have k1 := hp_cell (j := 1) HQ7.out rfl
      have k2 := hp_cell (j := 2) HQ7.out rfl
      have r0 := hp_cell (j := 0) HR7.out rfl
      have r1 := hp_cell (j := 1) HR7.out rfl
      have r2 := hp_cell (j := 2) HR7.out rfl
      go_wp2_with fail
      refine (same_ref (W : Nat) (H : Nat) A8 (4 * N) cap8 c (W : Nat) (H : Nat) A (4 * N) cap c (by unfold In64; omega) (by unfold In64; omega) (by unfold In64; omega) (by unfold In64; omega) hn8 hc8 hn hmax _ HQP7.out HRP7.out).mono ?_
      rintro e w8 ⟨rfl, hB8⟩
      have hmay : mayB (W : Nat) (H : Nat) (4 * N) = true := by
        unfold mayB
        refine decide_eq_true ⟨HZ.out, ?_⟩
        have h4 := HL4.out
        rw [← h4]
        simp
      have HMAY := Lib.hid hmay
      rw [same_self18 c hmay]
      have HP8 := Lib.hid (hp_below HP7.out hB8 (lt_heap HP7.out))
      have HPP8 := Lib.hid (HPP7.out.below hB8)
      have HR8 := Lib.hid (hp_below HR7.out hB8 (lt_heap HR7.out))
      have HRP8 := Lib.hid (HRP7.out.below hB8)
      have HB8 := Lib.hid (HB7.out.trans (hB8.mono HB7.out.size))
      clear k0 k1 k2 r0 r1 r2 hB8 hmay HP7 HPP7 HR7 HRP7 HB7 HQ7 HQP7
      have k0 := hp_cell (j := 0) HP8.out rfl
      have k1 := hp_cell (j := 1) HP8.out rfl
      have k2 := hp_cell (j := 2) HP8.out rfl
      go_wp2_with fail
      refine (may_ref (W : Nat) (H : Nat) A9 (4 * N) cap9 (by unfold In64; omega) (by unfold In64; omega) hn9 hc9 _).mono ?_
      rintro e w9 ⟨rfl, hB9⟩
      rw [HMAY.out]
      have HS9 : Hid (w9.heap[pb]? = some (.cells #[.int .i64 (W : Nat), .int .i64 (H : Nat), .slice A9 (4 * N) cap9] 26 (0, 0)) ∧ Pix w9 A9 (4 * N) c10 ∧ w9.heap[w.heap.size]? = some (.cells #[.int .i64 (W : Nat), .int .i64 (H : Nat), .slice A (4 * N) cap] 26 (0, 0)) ∧ Pix w9 A (4 * N) c ∧ Below w.heap.size w w9) := Lib.hid ⟨hp_below HP8.out hB9 (lt_heap HP8.out), HPP8.out.below hB9, hp_below HR8.out hB9 (lt_heap HR8.out), HRP8.out.below hB9, HB8.out.trans (hB9.mono HB8.out.size)⟩
      clear k0 k1 k2 hB9 HP8 HPP8 HR8 HRP8 HB8
      go_wp2_with fail
      go_loopw [10] (fun s wr => ∃ y : Nat, y ≤ H ∧ s = .int .i64 (y : Nat) ∧ wr.heap[pb]? = some (.cells #[.int .i64 (W : Nat), .int .i64 (H : Nat), .slice A9 (4 * N) cap9] 26 (0, 0)) ∧ Pix wr A9 (4 * N) c10 ∧ wr.heap[w.heap.size]? = some (.cells #[.int .i64 (W : Nat), .int .i64 (H : Nat), .slice A (4 * N) cap] 26 (0, 0)) ∧ Pix wr A (4 * N) c ∧ Below w.heap.size w wr) (fun s _ => H - (intOf s).toNat)
      case atStart => exact ⟨0, by omega, rfl, HS9.out⟩
      case round =>
        clear HS9
        obtain ⟨y, hy, rfl, hS⟩ := hrel
        have HS := Lib.hid hS
        clear hS
        have r1 := hp_cell (j := 1) HS.out.2.2.1 rfl
        by_cases hyH : y < H
        · go_wp2_with fail
          clear r1
          go_loopw [11] (fun s wx => ∃ x : Nat, x ≤ W ∧ s = .int .i64 (x : Nat) ∧ wx.heap[pb]? = some (.cells #[.int .i64 (W : Nat), .int .i64 (H : Nat), .slice A9 (4 * N) cap9] 26 (0, 0)) ∧ Pix wx A9 (4 * N) c10 ∧ wx.heap[w.heap.size]? = some (.cells #[.int .i64 (W : Nat), .int .i64 (H : Nat), .slice A (4 * N) cap] 26 (0, 0)) ∧ Pix wx A (4 * N) c ∧ Below w.heap.size w wx) (fun s _ => W - (intOf s).toNat)
          case atStart => exact ⟨0, by omega, rfl, HS.out⟩
          case round =>
            clear HS
            obtain ⟨x, hx, rfl, hS⟩ := hrel
            have HS := Lib.hid hS
            clear hS
            have r0 := hp_cell (j := 0) HS.out.2.2.1 rfl
            by_cases hxW : x < W
            · have p0 := hp_cell (j := 0) HS.out.1 rfl
              have p1 := hp_cell (j := 1) HS.out.1 rfl
              have p2 := hp_cell (j := 2) HS.out.1 rfl
              obtain ⟨Y, hY⟩ : ∃ Y, Y = H - 1 - y := ⟨_, rfl⟩
              have hYH : Y < H := by omega
              have z1 : IntKind.i64.wrap ((H : Int) - 1) = (H : Int) - 1 := IntWalk.i64_in _ (by omega)
              have z2 : IntKind.i64.wrap ((H : Int) - 1 - (y : Int)) = (Y : Int) := by rw [IntWalk.i64_in _ (by omega)]; omega
              have hg1 : getV (W : Nat) (H : Nat) (4 * N) c10 (x : Nat) (y : Nat) = px c (Y * W + x) := by
                rw [getV_xy HMAY.out hxW hyH, HTU.out x y hxW hyH, hY]
              have hg2 : getV (W : Nat) (H : Nat) (4 * N) c (x : Nat) (Y : Nat) = px c (Y * W + x) := getV_xy HMAY.out hxW hYH
              have HG1 := Lib.hid hg1
              have HG2 := Lib.hid hg2
              obtain ⟨Q, hQ⟩ : ∃ Q, Q = Y * W + x := ⟨_, rfl⟩
              rw [← hQ] at HG1 HG2
              have HI1 := Lib.hid (inB_xy HMAY.out hxW hyH)
              have HI2 := Lib.hid (inB_xy HMAY.out hxW hYH)
              have hEp := fun W9 => run_eqP (c (4 * Q), c (4 * Q + 1), c (4 * Q + 2), c (4 * Q + 3)) (c (4 * Q), c (4 * Q + 1), c (4 * Q + 2), c (4 * Q + 3)) W9
              simp only [decide_true] at hEp
              obtain ⟨v0, hv0⟩ : ∃ v, v = c (4 * Q) := ⟨_, rfl⟩
              obtain ⟨v1, hv1⟩ : ∃ v, v = c (4 * Q + 1) := ⟨_, rfl⟩
              obtain ⟨v2, hv2⟩ : ∃ v, v = c (4 * Q + 2) := ⟨_, rfl⟩
              obtain ⟨v3, hv3⟩ : ∃ v, v = c (4 * Q + 3) := ⟨_, rfl⟩
              unfold px at HG1 HG2
              rw [← hv0, ← hv1, ← hv2, ← hv3] at HG1 HG2 hEp
              clear hY hg1 hg2 hQ hv0 hv1 hv2 hv3
              go_wp2_with fail
              refine (get_ref (W : Nat) (H : Nat) A9 (4 * N) cap9 c10 (x : Nat) (y : Nat) (by unfold In64; omega) (by unfold In64; omega) hn9 hc9 _ HS.out.2.1).mono ?_
              rintro e wa ⟨hBa, rfl⟩
              rw [HG1.out, HI1.out]
              have hala : Below wa.heap.size wa (wa.alloc (.cells #[.int .u16 (v0 : Nat), .int .u16 (v1 : Nat), .int .u16 (v2 : Nat), .int .u16 (v3 : Nat)] 43)) := (Below.refl _ wa).alloc (Nat.le_refl _) _
              have hbb := hBa.trans (hala.mono hBa.size)
              have HSa := Lib.hid (And.intro (hp_below HS.out.1 hbb (lt_heap HS.out.1)) (And.intro (HS.out.2.1.below hbb) (And.intro (hp_below HS.out.2.2.1 hbb (lt_heap HS.out.2.2.1)) (And.intro (HS.out.2.2.2.1.below hbb) (HS.out.2.2.2.2.trans (hbb.mono HS.out.2.2.2.2.size))))))
              have HX9 := Lib.hid (hp_new0 wa (.cells #[.int .u16 (v0 : Nat), .int .u16 (v1 : Nat), .int .u16 (v2 : Nat), .int .u16 (v3 : Nat)] 43))
              clear hBa hala hbb HS r0 p0 p1 p2
              go_upto_region 24 with fail
              obtain ⟨xb, hxb⟩ : ∃ xb, xb = wa.heap.size := ⟨_, rfl⟩
              rw [← hxb] at HX9 ⊢
              generalize wa.alloc (.cells #[.int .u16 (v0 : Nat), .int .u16 (v1 : Nat), .int .u16 (v2 : Nat), .int .u16 (v3 : Nat)] 43) = wb at *
              clear hxb
              have r0 := hp_cell (j := 0) HSa.out.2.2.1 rfl
              have r1 := hp_cell (j := 1) HSa.out.2.2.1 rfl
              have r2 := hp_cell (j := 2) HSa.out.2.2.1 rfl
              go_wp2_with fail
              refine (get_ref (W : Nat) (H : Nat) A (4 * N) cap c (x : Nat) (Y : Nat) (by unfold In64; omega) (by unfold In64; omega) hn hmax _ HSa.out.2.2.2.1).mono ?_
              rintro e wd ⟨hBd, rfl⟩
              rw [HG2.out, HI2.out]
              have hald : Below wd.heap.size wd (wd.alloc (.cells #[.int .u16 (v0 : Nat), .int .u16 (v1 : Nat), .int .u16 (v2 : Nat), .int .u16 (v3 : Nat)] 43)) := (Below.refl _ wd).alloc (Nat.le_refl _) _
              have hbb := hBd.trans (hald.mono hBd.size)
              have HSd := Lib.hid (And.intro (hp_below HSa.out.1 hbb (lt_heap HSa.out.1)) (And.intro (HSa.out.2.1.below hbb) (And.intro (hp_below HSa.out.2.2.1 hbb (lt_heap HSa.out.2.2.1)) (And.intro (HSa.out.2.2.2.1.below hbb) (HSa.out.2.2.2.2.trans (hbb.mono HSa.out.2.2.2.2.size))))))
              have hX9 := hp_below HX9.out hbb (lt_heap HX9.out)
              have hY9 := hp_new0 wd (.cells #[.int .u16 (v0 : Nat), .int .u16 (v1 : Nat), .int .u16 (v2 : Nat), .int .u16 (v3 : Nat)] 43)
              have a0 := hp_cell (j := 0) hX9 rfl
              have a1 := hp_cell (j := 1) hX9 rfl
              have a2 := hp_cell (j := 2) hX9 rfl
              have a3 := hp_cell (j := 3) hX9 rfl
              have b0 := hp_cell (j := 0) hY9 rfl
              have b1 := hp_cell (j := 1) hY9 rfl
              have b2 := hp_cell (j := 2) hY9 rfl
              have b3 := hp_cell (j := 3) hY9 rfl
              clear hBd hald hbb HSa HX9 hX9 hY9 r0 r1 r2
              go_upto_region 25 with fail
              obtain ⟨yb, hyb⟩ : ∃ yb, yb = wd.heap.size := ⟨_, rfl⟩
              rw [← hyb] at b0 b1 b2 b3 ⊢
              generalize wd.alloc (.cells #[.int .u16 (v0 : Nat), .int .u16 (v1 : Nat), .int .u16 (v2 : Nat), .int .u16 (v3 : Nat)] 43) = we at *
              clear hyb
              go_wp2_with fail
              go_roundw
              case rel => exact ⟨x + 1, hxW, by go_num, HSd.out⟩
              case measure => simp [intOf]; omega
            · obtain rfl : x = W := by omega
              go_wp2_with fail
              go_roundw
              case rel => exact ⟨y + 1, hyH, by go_num, HS.out⟩
              case measure => simp [intOf]; omega
        · obtain rfl : y = H := by omega
          have HBx := Lib.hid HS.out.2.2.2.2
          clear HS
          go_wp2_with fail
          go_ret
          exact ⟨rfl, HBx.out⟩
end Go.Proofs.YtdooefnckdklmaaDoor

namespace Go.Proofs.YtdooefnckdklmaaDoor
set_option maxRecDepth 100000
set_option linter.unusedVariables false
open Go.ChangeShapes Go.WideShapes Go.ChangeAt Go.RowKit

/-- A run of one colour: where it stands then, the samples. -/
theorem puts_line {W H y v : Nat} {L : List P4} (hy : y < H) (hv : v < L.length) : ∀ (k i x : Nat) (c : Nat → Nat), x + k ≤ W →
    ∃ c1, putsB W H L y (fun _ => some v) k i x c = (x + k, c1, 0) ∧ (∀ x', x ≤ x' → x' < x + k → ∀ j, j < 4 → c1 (4 * ((H - 1 - y) * W + x') + j) = pt4 ((L[v]?).getD (0, 0, 0, 0)) j) ∧ (∀ q, (∀ x', x ≤ x' → x' < x + k → q / 4 ≠ (H - 1 - y) * W + x') → c1 q = c q)
  | 0, i, x, c, h => ⟨c, rfl, fun x' a b => absurd b (by omega), fun q _ => rfl⟩
  | k + 1, i, x, c, h => by
    obtain ⟨c1, h1, h2, h3⟩ := puts_line (W := W) hy hv k (i + 1) (x + 1) (setC c ((H - 1 - y) * W + x) ((L[v]?).getD (0, 0, 0, 0))) (by omega)
    refine ⟨c1, ?_, fun x' a b j hj => ?_, fun q hq => ?_⟩
    · rw [puts_yes (W := W) (H := H) (y := y) (L := L) (G := fun _ => some v) (k := k) (i := i) (x := x) (v := v) (c := c) rfl (by omega), h1]
      rw [show x + 1 + k = x + (k + 1) by omega]
    · by_cases hx : x' = x
      · subst hx
        rw [h3 _ (fun z p r e => by omega), setC_at _ _ _ _ hj]
      · exact h2 x' (by omega) (by omega) j hj
    · rw [h3 q (fun z p r => hq z (by omega) (by omega)), setC_oth _ _ _ _ (fun e => hq x (Nat.le_refl _) (by omega) e)]
/-- Lines told by runs: the i-th begins at byte p0 + 8 i. -/
structure RnL (d : Nat → Nat) (p0 W H N m : Nat) (at_ many col : Nat → Nat) (L : List P4) : Prop where
  b0 : ∀ i, i < N → d (p0 + 8 * i) = 0
  b1 : ∀ i, i < N → d (p0 + 8 * i + 1) = 2
  b2 : ∀ i, i < N → d (p0 + 8 * i + 2) = at_ i
  b3 : ∀ i, i < N → d (p0 + 8 * i + 3) = 0
  b4 : ∀ i, i < N → d (p0 + 8 * i + 4) = many i
  b5 : ∀ i, i < N → d (p0 + 8 * i + 5) = col i
  b6 : ∀ i, i < N → d (p0 + 8 * i + 6) = 0
  b7 : ∀ i, i < N → d (p0 + 8 * i + 7) = 0
  e0 : d (p0 + 8 * N) = 0
  e1 : d (p0 + 8 * N + 1) = 1
  hm : m = p0 + 8 * N + 2
  hH : H = N + 1
  hmany : ∀ i, i < N → 0 < many i ∧ at_ i + many i ≤ W
  hcol : ∀ i, i < N → col i < L.length
/-- A pixel of the i-th line from below. -/
def rowP (N : Nat) (at_ many col : Nat → Nat) (L : List P4) (i x : Nat) : P4 := if i < N ∧ at_ i ≤ x ∧ x < at_ i + many i then (L[col i]?).getD (0, 0, 0, 0) else (0, 0, 0, 0)
theorem runs_lines {d : Nat → Nat} {p0 W H N m : Nat} {at_ many col : Nat → Nat} {L : List P4} (h : RnL d p0 W H N m at_ many col L) : ∀ (r i K : Nat) (c : Nat → Nat), i + r = N → 3 * r + 1 ≤ K →
    (∀ k x, k < N + 1 → x < W → ∀ j, j < 4 → c (4 * ((H - 1 - k) * W + x) + j) = if k < i then pt4 (rowP N at_ many col L k x) j else 0) →
    ∃ c1, runsB d m W H 1 L K (p0 + 8 * i) 0 i c = (c1, 0) ∧ ∀ k x, k < N + 1 → x < W → ∀ j, j < 4 → c1 (4 * ((H - 1 - k) * W + x) + j) = pt4 (rowP N at_ many col L k x) j
  | 0, i, K, c, hi, hK, hc => by
    obtain rfl : i = N := by omega
    obtain ⟨K, rfl⟩ : ∃ K', K = K' + 1 := ⟨K - 1, by omega⟩
    have hm := h.hm
    refine ⟨c, runs_end (by omega) h.e0 h.e1, fun k x hk hx j hj => ?_⟩
    rw [hc k x hk hx j hj]
    by_cases hki : k < i
    · rw [if_pos hki]
    · rw [if_neg hki, rowP, if_neg (by omega)]
      unfold pt4
      (repeat' split) <;> rfl
  | r + 1, i, K, c, hi, hK, hc => by
    obtain ⟨K, rfl⟩ : ∃ K', K = K' + 1 + 1 + 1 := ⟨K - 3, by omega⟩
    have hm := h.hm
    have hH := h.hH
    have hiN : i < N := by omega
    have hmy := h.hmany i hiN
    have hcl := h.hcol i hiN
    have q1 : runsB d m W H 1 L (K + 1 + 1 + 1) (p0 + 8 * i) 0 i c = runsB d m W H 1 L (K + 1 + 1) (p0 + 8 * i + 4) (at_ i) i c := by
      rw [runs_step (by omega) (h.b0 i hiN) (h.b1 i hiN), if_neg (by omega), h.b2 i hiN, show p0 + 8 * i + 2 + 1 = p0 + 8 * i + 3 from rfl, h.b3 i hiN, if_neg (by omega), Nat.zero_add]
      rfl
    rw [q1]
    obtain ⟨c1, g1, g2, g3⟩ := puts_line (W := W) (H := H) (y := i) (v := col i) (L := L) (by omega) hcl (many i) 0 (at_ i) c (by omega)
    have hfn : (fun j => some (nib 1 (d (p0 + 8 * i + 4 + 1)) j)) = (fun _ => some (col i)) := by
      funext j
      rw [nib_run, show p0 + 8 * i + 4 + 1 = p0 + 8 * i + 5 from rfl, h.b5 i hiN]
    have q2 : runsB d m W H 1 L (K + 1 + 1) (p0 + 8 * i + 4) (at_ i) i c = runsB d m W H 1 L (K + 1) (p0 + 8 * i + 4 + 2) (at_ i + many i) i c1 := by
      rw [runs_run (by omega) (by rw [h.b4 i hiN]; omega) (at_ i + many i, c1, 0) (by rw [hfn, h.b4 i hiN, g1]), if_neg (by simp)]
    rw [q2, show p0 + 8 * i + 4 + 2 = p0 + 8 * i + 6 from rfl, runs_line (by omega) (h.b6 i hiN) (h.b7 i hiN)]
    have e8 : p0 + 8 * i + 6 + 2 = p0 + 8 * (i + 1) := by omega
    rw [e8]
    refine runs_lines h r (i + 1) K c1 (by omega) (by omega) (fun k x hk hx j hj => ?_)
    by_cases hki : k = i
    · subst hki
      rw [if_pos (by omega), rowP]
      by_cases hin : at_ k ≤ x ∧ x < at_ k + many k
      · rw [if_pos ⟨hiN, hin⟩]
        exact g2 x hin.1 hin.2 j hj
      · rw [if_neg (fun q => hin q.2), g3 _ (fun x' a b e => by omega), hc k x hk hx j hj, if_neg (by omega)]
        unfold pt4
        (repeat' split) <;> rfl
    · rw [g3 _ (fun x' a b e => ?_), hc k x hk hx j hj]
      · by_cases hlt : k < i
        · rw [if_pos hlt, if_pos (by omega)]
        · rw [if_neg hlt, if_neg (by omega)]
      · have e1 : (4 * ((H - 1 - k) * W + x) + j) / 4 = (H - 1 - k) * W + x := by omega
        rw [e1] at e
        have h1 := congrArg (· / W) e
        simp only [div_row hx, div_row (show x' < W by omega)] at h1
        omega
end Go.Proofs.YtdooefnckdklmaaDoor

namespace Go.Proofs.YtdooefnckdklmaaDoor
set_option maxRecDepth 100000
set_option linter.unusedVariables false
open Go.ChangeShapes Go.WideShapes Go.ChangeAt Go.RowKit

def psR (W H : Nat) : List (Nat × Nat) := [(10, 66), (14, 40), (18, W), (22, H), (26, 524289), (30, 1), (46, 3)]
def colsR : List Nat := [1, 2, 3, 0, 4, 5, 6, 0, 7, 8, 9, 0]
def lnR (at_ many col : Nat → Nat) (i : Nat) : List Nat := [0, 2, at_ i, 0, many i, col i, 0, 0]
def linesR (at_ many col : Nat → Nat) : Nat → List Nat
  | 0 => []
  | k + 1 => linesR at_ many col k ++ lnR at_ many col k
theorem linesR_len (at_ many col : Nat → Nat) : ∀ k, (linesR at_ many col k).length = 8 * k
  | 0 => rfl
  | k + 1 => by
    rw [linesR, List.length_append, linesR_len at_ many col k]
    simp [lnR]
    omega
theorem linesR_get (at_ many col : Nat → Nat) : ∀ k i j, i < k → j < 8 → gl (linesR at_ many col k) (8 * i + j) = gl (lnR at_ many col i) j
  | 0, i, j, h, _ => absurd h (by omega)
  | k + 1, i, j, h, hj => by
    have hl := linesR_len at_ many col k
    rw [linesR]
    by_cases hik : i = k
    · subst hik
      have h1 := gl_2 (linesR at_ many col i) (lnR at_ many col i) j
      rw [hl] at h1
      exact h1
    · rw [gl_1 (by rw [hl]; omega)]
      exact linesR_get at_ many col k i j (by omega) hj
/-- The whole file. -/
def fileR (W H N : Nat) (at_ many col : Nat → Nat) : List Nat := fL 54 (hF (psR W H)) ++ (colsR ++ (linesR at_ many col N ++ [0, 1]))
theorem fileR_len (W H N : Nat) (at_ many col : Nat → Nat) : (fileR W H N at_ many col).length = 66 + 8 * N + 2 := by
  simp [fileR, fL_len, colsR, linesR_len]
  omega
theorem fileR_head {W H N : Nat} {at_ many col : Nat → Nat} {j : Nat} (hj : j < 54) : gl (fileR W H N at_ many col) j = hF (psR W H) j := by
  rw [fileR, gl_1 (by rw [fL_len]; exact hj), gl_f hj]
theorem fileR_cols {W H N : Nat} {at_ many col : Nat → Nat} {j : Nat} (hj : j < 12) : gl (fileR W H N at_ many col) (54 + j) = gl colsR j := by
  have h := gl_2 (fL 54 (hF (psR W H))) (colsR ++ (linesR at_ many col N ++ [0, 1])) j
  rw [fL_len] at h
  rw [fileR, h, gl_1 (by simp [colsR]; exact hj)]
theorem fileR_rest {W H N : Nat} {at_ many col : Nat → Nat} (j : Nat) : gl (fileR W H N at_ many col) (66 + j) = gl (linesR at_ many col N ++ [0, 1]) j := by
  have h := gl_2 (fL 54 (hF (psR W H))) (colsR ++ (linesR at_ many col N ++ [0, 1])) (12 + j)
  rw [fL_len] at h
  have h2 := gl_2 colsR (linesR at_ many col N ++ [0, 1]) j
  rw [show colsR.length = 12 from rfl] at h2
  rw [fileR, show 66 + j = 54 + (12 + j) by omega, h, h2]
theorem fileR_line {W H N : Nat} {at_ many col : Nat → Nat} {i j : Nat} (hi : i < N) (hj : j < 8) : gl (fileR W H N at_ many col) (66 + 8 * i + j) = gl (lnR at_ many col i) j := by
  rw [Nat.add_assoc, fileR_rest, gl_1 (by rw [linesR_len]; omega), linesR_get at_ many col N i j hi hj]
theorem fileR_end {W H N : Nat} {at_ many col : Nat → Nat} (j : Nat) : gl (fileR W H N at_ many col) (66 + 8 * N + j) = gl [0, 1] j := by
  have h := gl_2 (linesR at_ many col N) [0, 1] j
  rw [linesR_len] at h
  rw [Nat.add_assoc, fileR_rest, h]
def colL : List P4 := [(771, 514, 257, 65535), (1542, 1285, 1028, 65535), (2313, 2056, 1799, 65535)]
theorem hF_R (W H : Nat) (hW : W ≤ 256) (hH : H ≤ 256) : hF (psR W H) 0 = 66 ∧ hF (psR W H) 1 = 77 ∧ lowD (hF (psR W H)) 10 4 = 66 ∧ lowD (hF (psR W H)) 14 4 = 40 ∧ lowD (hF (psR W H)) 18 4 = W ∧ lowD (hF (psR W H)) 22 4 = H ∧ lowD (hF (psR W H)) 26 2 = 1 ∧ lowD (hF (psR W H)) 28 2 = 8 ∧ lowD (hF (psR W H)) 30 4 = 1 ∧ lowD (hF (psR W H)) 46 4 = 3 := by
  have q26 := hb_low (psR W H) 26 524289 [(10, 66), (14, 40), (18, W), (22, H)] _ rfl (by intro q hq; simp at hq; rcases hq with rfl | rfl <;> simp) (by omega)
  refine ⟨hb_0 _ _ (by intro q hq; simp [psR] at hq; rcases hq with rfl | rfl | rfl | rfl | rfl | rfl | rfl <;> simp), hb_0 _ _ (by intro q hq; simp [psR] at hq; rcases hq with rfl | rfl | rfl | rfl | rfl | rfl | rfl <;> simp), ?_, ?_, ?_, ?_, q26.2.1, q26.2.2, ?_, ?_⟩
  · exact (hb_low (psR W H) 10 66 [] _ rfl (by intro q hq; simp at hq; rcases hq with rfl | rfl | rfl | rfl | rfl | rfl <;> simp) (by omega)).1
  · exact (hb_low (psR W H) 14 40 [(10, 66)] _ rfl (by intro q hq; simp at hq; rcases hq with rfl | rfl | rfl | rfl | rfl <;> simp) (by omega)).1
  · exact (hb_low (psR W H) 18 W [(10, 66), (14, 40)] _ rfl (by intro q hq; simp at hq; rcases hq with rfl | rfl | rfl | rfl <;> simp) (by omega)).1
  · exact (hb_low (psR W H) 22 H [(10, 66), (14, 40), (18, W)] _ rfl (by intro q hq; simp at hq; rcases hq with rfl | rfl | rfl <;> simp) (by omega)).1
  · exact (hb_low (psR W H) 30 1 [(10, 66), (14, 40), (18, W), (22, H), (26, 524289)] _ rfl (by intro q hq; simp at hq; subst hq; simp) (by omega)).1
  · exact (hb_low (psR W H) 46 3 [(10, 66), (14, 40), (18, W), (22, H), (26, 524289), (30, 1)] _ rfl (by intro q hq; simp at hq) (by omega)).1
theorem runs_read (W N : Nat) (at_ many col : Nat → Nat) (hW : 1 ≤ W ∧ W ≤ 40) (hN : N ≤ 60) (hmy : ∀ i, i < N → 0 < many i ∧ at_ i + many i ≤ W) (hcol : ∀ i, i < N → col i < 3) (d : Nat → Nat) (hd : d = gl (fileR W (N + 1) N at_ many col)) (m : Nat) (hm : m = 66 + 8 * N + 2) :
    bmW d = (W : Nat) ∧ (bmH d).natAbs = N + 1 ∧ ∃ c1, bmG d m = (c1, 0) ∧ ∀ k x, k < N + 1 → x < W → ∀ j, j < 4 → c1 (4 * ((N - k) * W + x) + j) = pt4 (rowP N at_ many col colL k x) j := by
  have hb : ∀ j, j < 54 → d j = hF (psR W (N + 1)) j := fun j hj => by rw [hd]; exact fileR_head hj
  have hl : ∀ k p, p + k ≤ 54 → lowD d p k = lowD (hF (psR W (N + 1))) p k := fun k p h => lowD_congr k p (fun j a b => hb j (by omega))
  obtain ⟨a0, a1, a2, a3, a4, a5, a6, a7, a8, a9⟩ := hF_R W (N + 1) (by omega) (by omega)
  have hof : bmOff d = 66 := by unfold bmOff; rw [hl _ _ (by omega)]; exact a2
  have hs : bmS d = 40 := by unfold bmS; rw [hl _ _ (by omega)]; exact a3
  have hw : bmW d = (W : Nat) := by unfold bmW; rw [hl _ _ (by omega), a4, sgnV, if_pos (by omega)]
  have hh : bmH d = ((N + 1 : Nat) : Int) := by unfold bmH; rw [hl _ _ (by omega), a5, sgnV, if_pos (by omega)]
  have hpl : lowD d 26 2 = 1 := by rw [hl _ _ (by omega)]; exact a6
  have hbi : bmBits d = 8 := by unfold bmBits; rw [hl _ _ (by omega)]; exact a7
  have hk : bmK d = 1 := by unfold bmK; rw [hl _ _ (by omega)]; exact a8
  have hu : lowD d 46 4 = 3 := by rw [hl _ _ (by omega)]; exact a9
  have hus : bmUsed d = 3 := by rw [bmUsed, hu, if_neg (by omega)]
  have hz : sizeE (W : Nat) ((N + 1 : Nat) : Int) = 0 := by
    unfold sizeE
    rw [if_neg (by omega), if_neg]
    have h1 : (409 : Int) ≤ 16384 / ((N + 1 : Nat) : Int) → ¬(256 < (W : Int) ∨ 256 < ((N + 1 : Nat) : Int) ∨ 16384 / ((N + 1 : Nat) : Int) < (W : Int)) := fun q => by omega
    have h2 : (268 : Int) ≤ 16384 / ((N + 1 : Nat) : Int) := by
      rw [Int.le_ediv_iff_mul_le (by omega)]
      omega
    omega
  have ha : (bmH d).natAbs = N + 1 := by rw [hh]; first | done | rfl
  refine ⟨hw, ha, ?_⟩
  have hfine : bmFine (bmBits d) (bmK d) (bmH d) = true := by rw [hbi, hk, hh]; unfold bmFine; exact decide_eq_true ⟨by omega, by omega, by omega, by omega, by omega⟩
  have hE1 : headE d m = 0 := headE_0 (by omega) ⟨by rw [hb _ (by omega)]; exact a0, by rw [hb _ (by omega)]; exact a1⟩ (by omega) (by omega) ⟨hpl, by rw [hw]; omega, by rw [hh]; omega, hfine⟩ (by rw [hw, ha]; exact not_not_intro hz)
  have he1 : bmE1 d = 54 := by rw [bmE1, hs, if_neg (by omega)]
  have hp8 : (2 : Nat) ^ bmBits d = 256 := by rw [hbi]
  have hE2 : swE d m = 0 := by rw [swE, if_neg (by omega), if_neg (by omega), if_neg (by omega), if_neg (by omega)]
  have he2 : bmE2 d = 66 := by rw [bmE2, he1, hus, if_pos (by omega)]
  have hE3 : offE d m = 0 := by rw [offE, if_neg (by omega), if_neg (by omega)]
  have hE : bmErr d m = 0 := by rw [bmErr_eq d m (by omega), hE1, hE2, hE3]; rfl
  have hc : ∀ j, j < 12 → d (54 + j) = gl colsR j := fun j hj => by rw [hd]; exact fileR_cols hj
  have hcols : bmCols d = colL := by
    rw [bmCols, if_pos (by omega), hus, he1]
    have r3 : List.range 3 = [0, 1, 2] := rfl
    rw [r3]
    simp only [List.map_cons, List.map_nil, back3]
    rw [show 54 + 4 * 0 + 2 = 54 + 2 from rfl, show 54 + 4 * 0 + 1 = 54 + 1 from rfl, show 54 + 4 * 0 = 54 + 0 from rfl, show 54 + 4 * 1 + 2 = 54 + 6 from rfl, show 54 + 4 * 1 + 1 = 54 + 5 from rfl, show 54 + 4 * 1 = 54 + 4 from rfl, show 54 + 4 * 2 + 2 = 54 + 10 from rfl, show 54 + 4 * 2 + 1 = 54 + 9 from rfl, show 54 + 4 * 2 = 54 + 8 from rfl]
    rw [hc 2 (by omega), hc 1 (by omega), hc 0 (by omega), hc 6 (by omega), hc 5 (by omega), hc 4 (by omega), hc 10 (by omega), hc 9 (by omega), hc 8 (by omega)]
    rfl
  have hR : RnL d 66 W (N + 1) N m at_ many col colL := by
    subst hd
    refine ⟨fun i hi => ?_, fun i hi => ?_, fun i hi => ?_, fun i hi => ?_, fun i hi => ?_, fun i hi => ?_, fun i hi => ?_, fun i hi => ?_, ?_, ?_, hm, rfl, hmy, hcol⟩
    · exact fileR_line (j := 0) hi (by omega)
    · exact fileR_line (j := 1) hi (by omega)
    · exact fileR_line (j := 2) hi (by omega)
    · exact fileR_line (j := 3) hi (by omega)
    · exact fileR_line (j := 4) hi (by omega)
    · exact fileR_line (j := 5) hi (by omega)
    · exact fileR_line (j := 6) hi (by omega)
    · exact fileR_line (j := 7) hi (by omega)
    · exact fileR_end 0
    · exact fileR_end 1
  obtain ⟨c1, h1, h2⟩ := runs_lines hR N 0 (m + 1) noB (by omega) (by omega) (fun k x hk hx j hj => by rw [if_neg (by omega)]; rfl)
  rw [bmG, hE, if_neg (by simp), if_pos (by omega), hw, ha, hk, hcols, hof, Int.toNat_natCast]
  exact ⟨c1, h1, h2⟩
end Go.Proofs.YtdooefnckdklmaaDoor

namespace Go.Proofs.YtdooefnckdklmaaDoor
set_option maxRecDepth 100000
set_option linter.unusedVariables false
open Go.ChangeShapes Go.WideShapes Go.ChangeAt Go.RowKit

theorem cellsB_app (l m : List Nat) : cellsB (l ++ m) = cellsB l ++ cellsB m := by simp [cellsB]
/-- append of some bytes that were just made to a row of one's own. -/
theorem app_lit (V : World) (base : Nat) (v : Value) (n : Nat) (l m : List Nat) (nb k : Nat) (hk : m.length = k) (hO : V.ownsRow base 5 1 v n (cellsB l)) (hN : V.heap[nb]? = some (.cells (cellsB m).toArray 5 (0, 0))) (hi : n < 1000000) (hk2 : k < 1000) (hb : base ≤ V.heap.size) :
    ∃ v' w', (Builtin.append_ #[22, 22] 22 #[v, .slice (some ⟨nb, 0, none⟩) k k]).run Tryd.prog V = .ok v' w' ∧ w'.ownsRow base 5 1 v' (n + k) (cellsB (l ++ m)) ∧ V.grownBy w' v.ownBlock := by
  obtain ⟨i0, hi0, hz0, hz1, hz2⟩ := info_parts info8
  rw [cellsB_app]
  obtain ⟨v', w', h1, h2, h3, _⟩ := run_app (P := Tryd.prog) (w := V) base 22 22 5 i0 (.int .u8 0) 1 1 Tryd.underlying22 hi0 hz0 hz1 hz2 rfl (by omega) v n (cellsB l) hO
    (some ⟨nb, 0, none⟩) k k (cellsB m) (by simp) (by rw [cellsB_len]; omega) (fun _ => ⟨nb, 0, rfl, fun j u hj => by
      rw [Nat.zero_add]
      exact hp_cell hN (by rw [← Array.getElem?_toList]; exact hj)⟩) (by intro u hu; obtain ⟨x, _, rfl⟩ := List.mem_map.1 hu; rfl) (by unfold maxLen; omega) (by omega) hb
  exact ⟨v', w', h1, h2, h3⟩
/-- The numbers that are written, as cells. -/
def lowR (W H : Nat) : Array Value := #[.int .i64 10, .int .i64 66, .int .i64 14, .int .i64 40, .int .i64 18, .int .i64 (W : Nat), .int .i64 22, .int .i64 (H : Nat), .int .i64 26, .int .i64 524289, .int .i64 30, .int .i64 1, .int .i64 46, .int .i64 3]
theorem lowR_at {W H j : Nat} {p : Nat × Nat} (h : (psR W H)[j]? = some p) : (lowR W H)[2 * j]? = some (.int .i64 (p.1 : Nat)) ∧ (lowR W H)[2 * j + 1]? = some (.int .i64 (p.2 : Nat)) := by
  match j, h with
  | 0, h => cases h; exact ⟨rfl, rfl⟩
  | 1, h => cases h; exact ⟨rfl, rfl⟩
  | 2, h => cases h; exact ⟨rfl, rfl⟩
  | 3, h => cases h; exact ⟨rfl, rfl⟩
  | 4, h => cases h; exact ⟨rfl, rfl⟩
  | 5, h => cases h; exact ⟨rfl, rfl⟩
  | 6, h => cases h; exact ⟨rfl, rfl⟩
  | j + 7, h => simp [psR] at h
theorem psR_bd {W H j : Nat} {p : Nat × Nat} (hW : W ≤ 256) (hH : H ≤ 256) (h : (psR W H)[j]? = some p) : p.1 ≤ 46 ∧ p.2 < 4294967296 := by
  have hm := List.mem_of_getElem? h
  simp only [psR, List.mem_cons, List.not_mem_nil, or_false] at hm
  rcases hm with rfl | rfl | rfl | rfl | rfl | rfl | rfl <;> simp <;> omega
/-- While the head is written: n0 bytes; what came in stays. -/
structure HdW (n0 nb cb lb : Nat) (low : Array Value) (A : Option Addr) (m : Nat) (b : Nat → Nat) (w : World) (f : Nat → Nat) (wr : World) : Prop where
  own : wr.ownsRow nb 5 1 (.slice (some ⟨nb, 0, none⟩) n0 cb) n0 (cellsB (fL n0 f))
  low : wr.heap[lb]? = some (.cells low 3 (0, 0))
  arg : Byt wr A m b
  bel : Below w.heap.size w wr
theorem HdW.put {n0 nb cb lb : Nat} {low : Array Value} {A : Option Addr} {m : Nat} {b : Nat → Nat} {w : World} {f : Nat → Nat} {wr : World} (h : HdW n0 nb cb lb low A m b w f wr) (hnl : nb ≠ lb) (hnw : w.heap.size ≤ nb) (hA : ∀ a, A = some a → 0 < m → a.block < w.heap.size) {at_ v k : Nat} {f0 : Nat → Nat} (hf : f = putK f0 at_ v k) (hk : at_ + k < n0) : HdW n0 nb cb lb low A m b w (putK f0 at_ v (k + 1)) ((wr.setCell ⟨nb, at_ + k, none⟩ (.int .u8 ((v / 2 ^ (8 * k) % 256 : Nat) : Int))).drew) := by
  have h1 := (h.own.stored (at_ + k) (.int .u8 ((v / 2 ^ (8 * k) % 256 : Nat) : Int))).1
  rw [← cellsB_set, hf, putK_set hk] at h1
  have hc : Chg [nb] wr ((wr.setCell ⟨nb, at_ + k, none⟩ (.int .u8 ((v / 2 ^ (8 * k) % 256 : Nat) : Int))).drew) := ((Chg.refl [nb] wr).set (.inl (by simp)) _ _).drew
  exact ⟨h1.drew, hp_chg h.low hc (by simp; omega), h.arg.chg hc (fun h0 a ha => by have := hA a ha h0; simp; omega), (h.bel.setCell (p := ⟨nb, at_ + k, none⟩) (by simp; omega) _).drew⟩
/-- While the lines are written. -/
structure LnW (base : Nat) (pre : List Nat) (A : Option Addr) (m : Nat) (b : Nat → Nat) (w : World) (t : Nat) (l : List Nat) (v : Value) (wr : World) : Prop where
  own : wr.ownsRow base 5 1 v t (cellsB l)
  arg : Byt wr A m b
  bel : Below w.heap.size w wr
/-- append of bytes that were just made: the state goes on. -/
theorem LnW.app {base : Nat} {pre : List Nat} {A : Option Addr} {m : Nat} {b : Nat → Nat} {w : World} {t : Nat} {l : List Nat} {v : Value} {wr : World} (h : LnW base pre A m b w t l v wr) (hb : w.heap.size ≤ base) (hbl : base ≤ wr.heap.size) (hA : ∀ a, A = some a → 0 < m → a.block < w.heap.size) (ml : List Nat) (k : Nat) (hk : ml.length = k) (ht : t < 1000000) (hk2 : k < 1000) :
    ∃ v' w', (Builtin.append_ #[22, 22] 22 #[v, .slice (some ⟨wr.heap.size, 0, none⟩) k k]).run Tryd.prog (wr.alloc (.cells (cellsB ml).toArray 5)) = .ok v' w' ∧ LnW base pre A m b w (t + k) (l ++ ml) v' w' ∧ base ≤ w'.heap.size := by
  have hal : Below wr.heap.size wr (wr.alloc (.cells (cellsB ml).toArray 5)) := (Below.refl _ wr).alloc (Nat.le_refl _) _
  have ho := h.own.alloc (.cells (cellsB ml).toArray 5)
  obtain ⟨v', w', r, o, g⟩ := app_lit _ base v t l ml wr.heap.size k hk ho (hp_new0 _ _) ht hk2 (by rw [World.size_alloc]; omega)
  have hc : Chg v.ownBlock.toList wr w' := (Chg.of_below hal).trans (Chg.grown g (fun r e => by rw [e]; simp))
  have hB : Below base wr w' := hc.below hbl (fun r hr => (h.own.lt r (by simpa using hr)).1)
  exact ⟨v', w', r, ⟨o, h.arg.chg hc (fun h0 a ha hm => by have h1 := hA a ha h0; have h2 := (h.own.lt a.block (by simpa using hm)).1; omega), h.bel.trans (hB.mono hb)⟩, Nat.le_trans hbl hB.size⟩
end Go.Proofs.YtdooefnckdklmaaDoor
