/- engraverlaw16.Plain: the walk. Layer 16's awake. GifreadDecodes: the walk. GifreadRows: the walk. GifreadPlain: the walk. -/
import Derived.Test.YtkjlejkcedemlaaM19
import Derived.Lib.SlBytesConst
import Derived.ArgAppend
import Derived.Lib.MinMax
import Derived.BigQuiet
namespace Go.Proofs.Ytkjlejkcedemlaa
set_option maxRecDepth 100000
set_option linter.unusedVariables false
open Go.ChangeShapes Go.WideShapes Go.ChangeAt Go.RowKit

theorem byteL_cellsB {l : List Nat} (h : ∀ v ∈ l, v < 256) : byteL l = cellsB l := by
  unfold byteL cellsB
  apply List.map_congr_left
  intro v hv
  rw [Nat.mod_eq_of_lt (h v hv)]
set_option maxRecDepth 100000 in
set_option maxHeartbeats 1000000 in
theorem plain_no (a b : Int) (A : Option Addr) (n cap : Nat) (c : Nat → Nat) (hc : ∀ i, c i < 65536) (ha : In64 a) (hb : In64 b) (hfit : fitsB a b n c 2 = false) (hn : n ≤ cap) (hmax : cap ≤ maxLen) (w : World) (hP : Pix w A n c) :
    Calls Try.prog 14 #[.agg #[.int .i64 a, .int .i64 b, .slice A n cap]] w fun e w' => e = .returned (.slice none 0 0) ∧ Below w.heap.size w w' := by
  have k0 := hp_new0 w (.cells #[.int .i64 a, .int .i64 b, .slice A n cap] 26)
  have c0 := hp_cell (j := 0) k0 rfl
  have c1 := hp_cell (j := 1) k0 rfl
  have c2 := hp_cell (j := 2) k0 rfl
  have HB := Lib.hid ((Below.refl _ w).alloc (Nat.le_refl _) (.cells #[.int .i64 a, .int .i64 b, .slice A n cap] 26))
  have HP := Lib.hid (hP.below HB.out)
  have HFIT := Lib.hid hfit
  have HC := Lib.hid hc
  clear hfit hc hP k0
  go_enter Try.func14, Try.ntmps14
  go_wp2_with fail
  refine (maker_no a b A n cap c HC.out ha hb HFIT.out hn hmax _ HP.out).mono ?_
  rintro e w2 ⟨rfl, hB2⟩
  have HB2 := Lib.hid (HB.out.trans (hB2.mono HB.out.size))
  have HB3 := Lib.hid (HB2.out.alloc HB2.out.size (.cells #[.slice none 0 0, .int .i64 0] 67))
  clear hB2 c0 c1 c2
  go_wp2
  go_ret
  exact ⟨rfl, HB3.out⟩

theorem tabR_three (L : List P4) (i : Nat) (p : P4) (hp : p = (L[i]?).getD (0, 0, 0, 0)) : tabR L (3 * (i + 1)) (3 * L.length) = tabR L (3 * i) (3 * L.length) ++ [part4 p 0 / 257, part4 p 1 / 257, part4 p 2 / 257] := by
  have e : ∀ k, k < 3 → (if 3 * i + k < 3 * L.length then tbB L (3 * i + k) else 0) = part4 p k / 257 := fun k hk => by
    unfold tbB
    rw [show (3 * i + k) / 3 = i by omega, show (3 * i + k) % 3 = k by omega, ← hp]
    split
    · rfl
    · have hn : L[i]? = none := List.getElem?_eq_none (by omega)
      rw [hn] at hp
      subst hp
      match k, hk with
      | 0, _ => rfl
      | 1, _ => rfl
      | 2, _ => rfl
  unfold tabR
  rw [show 3 * (i + 1) = 3 * i + 1 + 1 + 1 by omega, List.range_succ, List.range_succ, List.range_succ]
  simp only [List.map_append, List.map_cons, List.map_nil, List.append_assoc, List.cons_append, List.nil_append]
  have e0 := e 0 (by omega)
  have e1 := e 1 (by omega)
  have e2 := e 2 (by omega)
  rw [Nat.add_zero] at e0
  rw [e0, e1, show 3 * i + 1 + 1 = 3 * i + 2 by omega, e2]

set_option maxRecDepth 1000000 in
set_option maxHeartbeats 4000000 in
theorem plain_yes (W H : Nat) (bk off cap : Nat) (c : Nat → Nat) (hc : ∀ i, c i < 65536) (hfit : fitsB (W : Nat) (H : Nat) (4 * (W * H)) c 2 = true) (hcap : 4 * (W * H) ≤ cap) (hmax : cap ≤ maxLen) (w : World) (hbk : bk < w.heap.size) (hcells : ∀ j, j < 4 * (W * H) → w.cell? ⟨bk, off + j, none⟩ = some (.int .u16 (c j : Nat))) :
    Calls Try.prog 14 #[.agg #[.int .i64 (W : Nat), .int .i64 (H : Nat), .slice (some ⟨bk, off, none⟩) (4 * (W * H)) cap]] w fun e w' => ∃ A' cap', e = .returned (.slice A' (gifP c W H [59]).length cap') ∧ NewB w.heap.size w' (gifP c W H [59]).length A' cap' (gz (gifP c W H [59])) ∧ Below w.heap.size w w' := by
  obtain ⟨hsz, hok⟩ := gifok_of hc hfit
  have hw1 := hok.w1
  have hw2 := hok.w2
  have hh1 := hok.h1
  have hh2 := hok.h2
  have hn2 := hok.n2
  have hb1 := hok.b1
  have hb2 := hok.b2
  have hlt := hok.lt
  have hcr := hok.cr
  obtain ⟨hm, hokp, h257, h256⟩ := fit_ok hc hfit
  have hbb := (bbN_facts _ h256).1
  have hlb := hok.lb
  obtain ⟨F, hF⟩ : ∃ F, F = gifP c W H [59] := ⟨_, rfl⟩
  rw [← hF]
  unfold gifP at hF
  obtain ⟨N, hN⟩ : ∃ N, N = W * H := ⟨_, rfl⟩
  rw [← hN] at hfit hcap hcells hn2 hok hlt hbb hcr h256 hlb hb1 hb2 hF ⊢
  rw [← hN] at hm h257 hokp
  have hN1 : 1 ≤ N := by rw [hN]; exact Nat.mul_pos (by omega) (by omega)
  have hpl256 : ∀ v ∈ pl c N, v < 256 := fun v hv => by
    have h1 := hlt v hv
    have h2 : 2 ^ max 2 (bbN (U c N).length) ≤ 2 ^ 8 := Nat.pow_le_pow_right (by omega) (by omega)
    omega
  have hw4 : ∀ p ∈ U c N, w4 p := fun p hp => by
    obtain ⟨i, _, rfl⟩ := U_mem hp
    exact w4_p4 hc i
  have k0 := hp_new0 w (.cells #[.int .i64 (W : Nat), .int .i64 (H : Nat), .slice (some ⟨bk, off, none⟩) (4 * N) cap] 26)
  have c0 := hp_cell (j := 0) k0 rfl
  have c1 := hp_cell (j := 1) k0 rfl
  have c2 := hp_cell (j := 2) k0 rfl
  have HB := Lib.hid ((Below.refl _ w).alloc (Nat.le_refl _) (.cells #[.int .i64 (W : Nat), .int .i64 (H : Nat), .slice (some ⟨bk, off, none⟩) (4 * N) cap] 26))
  have HC := Lib.hid hc
  have HK := Lib.hid k0
  have HFIT := Lib.hid hfit
  have HCELLS := Lib.hid hcells
  have HW4 := Lib.hid hw4
  have HPL := Lib.hid hpl256
  have HLT := Lib.hid hlt
  have HBB := Lib.hid hbb
  have HNN := Lib.hid hN
  have iW := in64_nat (k := W) (by omega)
  have iH := in64_nat (k := H) (by omega)
  have HMX := Lib.hid hmax
  obtain ⟨L, hL⟩ : ∃ L, L = U c N := ⟨_, rfl⟩
  rw [← hL] at HW4 HBB h256 hlb hb1 hb2 hcr hF
  obtain ⟨bb, hbbe⟩ : ∃ bb, bb = bbN L.length := ⟨_, rfl⟩
  rw [← hbbe] at HBB hlb hb1 hb2 hF
  rw [← hL, ← hbbe] at HLT
  obtain ⟨idx, hidx⟩ : ∃ idx, idx = pl c N := ⟨_, rfl⟩
  rw [← hidx] at HPL HLT hF
  obtain ⟨cl, hcl⟩ : ∃ cl, cl = clearIx L := ⟨_, rfl⟩
  rw [← hcl] at hcr hF
  have HF := Lib.hid hF
  have HLE := Lib.hid hL
  have HIE := Lib.hid hidx
  have HCE := Lib.hid hcl
  clear hsz hok hlt hm hokp h257 hbb hN hpl256 hw4 k0 hc hfit hcells hL hbbe hidx hcl hmax hF
  go_enter Try.func14, Try.ntmps14
  go_wp2_with fail
  refine (maker_yes (W : Nat) (H : Nat) bk off cap c HC.out N iW iH HFIT.out hN1 hn2 hcap HMX.out _ (Nat.lt_of_lt_of_le hbk HB.out.size) (fun j hj => (HB.out.cell hbk).trans (HCELLS.out j hj))).mono ?_
  rintro e w2 ⟨⟨v, u, rfl, hv, hu⟩, hB2⟩
  rw [← HLE.out, ← HCE.out]
  rw [← HLE.out] at hv
  rw [← HIE.out, byteL_cellsB HPL.out] at hu
  have hk2 := hp_below HK.out hB2 (by simp)
  have HB2 := Lib.hid (HB.out.trans (hB2.mono HB.out.size))
  have HV := Lib.hid hv
  have HU := Lib.hid hu
  obtain ⟨-, Av, cv, rfl, -, -, -⟩ := Sl.of_own hv
  obtain ⟨-, Au, cu, rfl, -, -, -⟩ := Sl.of_own hu
  have f0 := hp_cell (j := 0) hk2 rfl
  have f1 := hp_cell (j := 1) hk2 rfl
  have HK2 := Lib.hid hk2
  have hbbl : L.length ≤ 256 := h256
  have iL := in64_nat (k := L.length) (by omega)
  clear hB2 hv hu hk2 c0 c1 c2
  go_wp2_with fail
  refine (bits_ref (L.length : Nat) iL _).mono ?_
  rintro e wx ⟨rfl, rfl⟩
  rw [HBB.out]
  obtain ⟨wp, hwp⟩ : ∃ wp, wp = w2.alloc (.cells #[.slice Av L.length cv, .int .i64 cl] 67) := ⟨_, rfl⟩
  have hpb : wp.heap[w2.heap.size]? = some (.cells #[.slice Av L.length cv, .int .i64 cl] 67 (0, 0)) := by rw [hwp]; exact hp_new0 _ _
  have hBp : Below w2.heap.size w2 wp := by rw [hwp]; exact (Below.refl _ w2).alloc (Nat.le_refl _) _
  have hsp : wp.heap.size = w2.heap.size + 1 := by rw [hwp]; simp
  have g0 := (hBp.cell (lt_of_cell f0)).trans f0
  have g1 := (hBp.cell (lt_of_cell f1)).trans f1
  have hlt1 : w.heap.size < wp.heap.size := by have := lt_heap HK2.out; omega
  have hlt2 : w2.heap.size < wp.heap.size := by omega
  have p0 := hp_cell (j := 0) hpb rfl
  have p1 := hp_cell (j := 1) hpb rfl
  rw [← hwp]
  have HBp := Lib.hid (HB2.out.trans (hBp.mono HB2.out.size))
  have HB2p := Lib.hid hBp
  have HKR := Lib.hid (show ∀ W', Below wp.heap.size wp W' → W'.cell? ⟨w.heap.size, 0, none⟩ = some (.int .i64 (W : Nat)) ∧ W'.cell? ⟨w.heap.size, 1, none⟩ = some (.int .i64 (H : Nat)) from fun W' hb => ⟨(hb.cell hlt1).trans g0, (hb.cell hlt1).trans g1⟩)
  have HKP := Lib.hid (show ∀ W', Below wp.heap.size wp W' → W'.cell? ⟨w2.heap.size, 0, none⟩ = some (.slice Av L.length cv) ∧ W'.cell? ⟨w2.heap.size, 1, none⟩ = some (.int .i64 cl) from fun W' hb => ⟨(hb.cell hlt2).trans p0, (hb.cell hlt2).trans p1⟩)
  clear hwp hpb hBp hsp f0 f1
  obtain ⟨x0, hx0⟩ : ∃ x, x = W % 256 := ⟨_, rfl⟩
  obtain ⟨x1, hx1⟩ : ∃ x, x = W / 256 % 256 := ⟨_, rfl⟩
  obtain ⟨y0, hy0⟩ : ∃ x, x = H % 256 := ⟨_, rfl⟩
  obtain ⟨y1, hy1⟩ : ∃ x, x = H / 256 % 256 := ⟨_, rfl⟩
  have hnW : num2 W = [x0, x1] := by rw [hx0, hx1]; rfl
  have hnH : num2 H = [y0, y1] := by rw [hy0, hy1]; rfl
  have a0 : IntKind.u8.wrap ((W : Nat) : Int) = ((x0 : Nat) : Int) := by rw [IntKind.wrap_u8']; omega
  have a1 : IntKind.u8.wrap (((W : Nat) : Int) / 256) = ((x1 : Nat) : Int) := by rw [IntKind.wrap_u8']; omega
  have b0 : IntKind.u8.wrap ((H : Nat) : Int) = ((y0 : Nat) : Int) := by rw [IntKind.wrap_u8']; omega
  have b1 : IntKind.u8.wrap (((H : Nat) : Int) / 256) = ((y1 : Nat) : Int) := by rw [IntKind.wrap_u8']; omega
  have HNW := Lib.hid hnW
  have HNH := Lib.hid hnH
  clear hx0 hx1 hy0 hy1 hnW hnH
  have hor : bits BinOp.or IntKind.u8 128 ((bb : Int) - 1) = ((127 + bb : Nat) : Int) := by
    have h := u8_or_nat 128 (bb - 1) (by omega) (by omega)
    rw [show ((bb - 1 : Nat) : Int) = (bb : Int) - 1 by omega] at h
    refine h.trans ?_
    have : bb = 1 ∨ bb = 2 ∨ bb = 3 ∨ bb = 4 ∨ bb = 5 ∨ bb = 6 ∨ bb = 7 ∨ bb = 8 := by omega
    rcases this with rfl | rfl | rfl | rfl | rfl | rfl | rfl | rfl <;> rfl
  have hb1' : (0 : Int) ≤ (bb : Int) - 1 ∧ (bb : Int) - 1 ≤ 255 := by omega
  obtain ⟨i0, hi0, hz0, hz1, hz2⟩ := info_parts info8
  have u2 := Go.Lib.run_convert_bytes_const wp 22 5 #[.int .u8 71, .int .u8 73, .int .u8 70, .int .u8 56, .int .u8 57, .int .u8 97] 6 6 Try.underlying22 Try.underlying5
  obtain ⟨w6, hw6⟩ : ∃ w6, w6 = (wp.alloc (.cells #[.int .u8 71, .int .u8 73, .int .u8 70, .int .u8 56, .int .u8 57, .int .u8 97] 5 (6, 7))).alloc (.cells #[.int .u8 (x0 : Nat), .int .u8 (x1 : Nat), .int .u8 (y0 : Nat), .int .u8 (y1 : Nat), .int .u8 ((127 + bb : Nat) : Int), .int .u8 0, .int .u8 0] 5) := ⟨_, rfl⟩
  have hm6 : w6.heap[wp.heap.size]? = some (.cells #[.int .u8 71, .int .u8 73, .int .u8 70, .int .u8 56, .int .u8 57, .int .u8 97] 5 (6, 7)) := by rw [hw6]; exact hp_alloc _ (hp_new0 _ _)
  have hm7 : w6.heap[wp.heap.size + 1]? = some (.cells #[.int .u8 (x0 : Nat), .int .u8 (x1 : Nat), .int .u8 (y0 : Nat), .int .u8 (y1 : Nat), .int .u8 ((127 + bb : Nat) : Int), .int .u8 0, .int .u8 0] 5 (0, 0)) := by
    have := hp_new0 (wp.alloc (.cells #[.int .u8 71, .int .u8 73, .int .u8 70, .int .u8 56, .int .u8 57, .int .u8 97] 5 (6, 7))) (.cells #[.int .u8 (x0 : Nat), .int .u8 (x1 : Nat), .int .u8 (y0 : Nat), .int .u8 (y1 : Nat), .int .u8 ((127 + bb : Nat) : Int), .int .u8 0, .int .u8 0] 5)
    rw [hw6]
    simpa using this
  have hB6 : Below wp.heap.size wp w6 := by rw [hw6]; exact ((Below.refl _ wp).alloc (Nat.le_refl _) _).alloc (by simp) _
  obtain ⟨v7, w7, r7, ow7, g7⟩ := run_append_arg_grows (P := Try.prog) w6 22 22 5 i0 (.int .u8 0) 1 1 Try.underlying22 hi0 hz0 hz1 hz2 rfl (by omega)
    ⟨wp.heap.size, 0, none⟩ 6 6 (cellsB [71, 73, 70, 56, 57, 97]) rfl (fun j u hj => by
      rw [Addr.add_lit, Nat.zero_add]
      rw [cell_of_row _ wp.heap.size j _ 5 (6, 7) hm6, ← Array.getElem?_toList]
      exact hj) ⟨wp.heap.size + 1, 0, none⟩ 7 7 (cellsB [x0, x1, y0, y1, 127 + bb, 0, 0]) rfl (fun j u hj => by
      rw [Addr.add_lit, Nat.zero_add]
      rw [cell_of_row _ (wp.heap.size + 1) j _ 5 (0, 0) hm7, ← Array.getElem?_toList]
      exact hj) (by omega) (by unfold maxLen; omega) (by omega)
  have hcat : cellsB [71, 73, 70, 56, 57, 97] ++ cellsB [x0, x1, y0, y1, 127 + bb, 0, 0] = cellsB ([71, 73, 70, 56, 57, 97] ++ [x0, x1, y0, y1, 127 + bb, 0, 0]) := by simp [cellsB]
  rw [hcat] at ow7
  have o7 : OutR wp v7 ([71, 73, 70, 56, 57, 97] ++ [x0, x1, y0, y1, 127 + bb, 0, 0]) w7 := ⟨own_len (by simp) (own_le2 hB6.size ow7), hB6.grown g7 hB6.size (fun k e => by cases e)⟩
  rw [hw6] at r7
  have HR7 := Lib.hid r7
  have HO7 := Lib.hid o7
  clear r7 o7 hw6 hm6 hm7 hB6 ow7 g7 hcat
  go_wp2_with (at_builtin; refine wpList_app rfl _ _ 22 rfl _ _ _ _ rfl rfl HR7.out ?_)
  have HAB := Lib.hid (And.intro (And.intro a0 a1) (And.intro b0 b1))
  clear a0 a1 b0 b1 hor hb1' g0 g1
  obtain ⟨P, hP⟩ : ∃ P, P = 2 ^ bb := ⟨_, rfl⟩
  have hP256 : P ≤ 256 := by rw [hP]; exact Nat.pow_le_pow_right (n := 2) (j := 8) (by omega) hb2
  have hLP : L.length ≤ P := by rw [hP]; exact hlb
  have hpw : IntKind.i64.wrap ((2 : Int) ^ bb) = (P : Int) := by
    have e : (2 : Int) ^ bb = ((2 ^ bb : Nat) : Int) := by simp
    rw [e, ← hP]
    exact IntWalk.i64_in _ (by omega)
  have HPW := Lib.hid hpw
  have HPE := Lib.hid hP
  obtain ⟨-, Av', cv', hev, e1, e2, e3⟩ := Sl.of_own HV.out
  injection hev with z1 z2 z3
  subst z1 z3
  have HPV := Lib.hid (show ∀ W', Below wp.heap.size wp W' → 0 < L.length → ∃ bk off, Av = some ⟨bk, off, none⟩ ∧ bk < W'.heap.size ∧ ∀ j u, (cellsP L)[j]? = some u → W'.cell? ⟨bk, off + j, none⟩ = some u from fun W' hb hn => by
    obtain ⟨bk, off, rfl, hlt, hcl⟩ := e3 hn
    have hb' := HB2p.out.trans (hb.mono HB2p.out.size)
    refine ⟨bk, off, rfl, Nat.lt_of_lt_of_le hlt hb'.size, fun j u hj => ?_⟩
    have hjl := (List.getElem?_eq_some_iff.1 hj).1
    rw [cellsP_len] at hjl
    rw [(hb'.cell (p := ⟨bk, off + j, none⟩) hlt).trans (hcl j hjl), hj])
  obtain ⟨O7, hO7e⟩ : ∃ l, l = [71, 73, 70, 56, 57, 97] ++ [x0, x1, y0, y1, 127 + bb, 0, 0] := ⟨_, rfl⟩
  rw [← hO7e] at HO7
  have hO7l : O7.length = 13 := by rw [hO7e]; rfl
  have HO7E := Lib.hid hO7e
  have H0 : Hid (OutR wp v7 (O7 ++ tabR L (3 * 0) (3 * L.length)) w7) := Lib.hid (by rw [show tabR L (3 * 0) (3 * L.length) = [] by simp [tabR], List.append_nil]; exact HO7.out)
  clear e3 z2 hP hpw hO7e p0 p1 HO7 HR7
  go_loopw [7, 8] (fun s7 s8 wr => ∃ (i : Nat) (v : Value), v = s7 ∧ i ≤ P ∧ s8 = .int .i64 (i : Nat) ∧ OutR wp v (O7 ++ tabR L (3 * i) (3 * L.length)) wr) (fun _ s8 _ => P - (intOf s8).toNat)
  case atStart => exact ⟨0, _, rfl, by omega, rfl, H0.out⟩
  case round =>
    clear H0
    obtain ⟨i, v, hv, hi, rfl, hO⟩ := hrel
    subst hv
    have hpw := HPW.out
    by_cases hlt : i < P
    · obtain ⟨p, hp⟩ : ∃ p, p = (L[i]?).getD (0, 0, 0, 0) := ⟨_, rfl⟩
      have hpw : w4 p := by
        rw [hp]
        cases q : L[i]? with
        | none => unfold w4; simp
        | some p => exact HW4.out p (List.mem_of_getElem? q)
      have htr := tabR_three L i p hp
      obtain ⟨r0, r1⟩ := HKP.out _ hO.2
      have hl2 : w2.heap.size < wr.heap.size := Nat.lt_of_lt_of_le hlt2 hO.2.size
      have HTR := Lib.hid htr
      have HPW4 := Lib.hid hpw
      have HPD := Lib.hid hp
      have hol : (O7 ++ tabR L (3 * i) (3 * L.length)).length ≤ 800 := by rw [List.length_append, tabR_len, hO7l]; omega
      have HO := Lib.hid hO
      clear htr hpw hp hO
      go_upto_if 56 with fail
      go_cut [9] (fun s9 wx => s9 = .pointer (some ⟨wr.heap.size, 0, none⟩) ∧ wx.heap[wr.heap.size]? = some (.cells #[.int .u16 (part4 p 0 : Nat), .int .u16 (part4 p 1 : Nat), .int .u16 (part4 p 2 : Nat), .int .u16 (part4 p 3 : Nat)] 47 (0, 0)) ∧ OutR wp v (O7 ++ tabR L (3 * i) (3 * L.length)) wx)
      case first =>
        by_cases hiL : i < L.length
        · have t1 : decide ((i : Int) < (L.length : Int)) = true := by simp; omega
          obtain ⟨bv, ov, rfl, hbv, hcv⟩ := HPV.out _ HO.out.2 (by omega)
          have hcell : ∀ k, k < 4 → wr.cell? ⟨bv, ov + (4 * i + k), none⟩ = some (.int .u16 ((part4 p k : Nat) : Int)) := fun k hk => by rw [HPD.out]; exact hcv _ _ (cellsP_at L i k hiL hk)
          have k0 : wr.cell? ⟨bv, ov + i * 4, none⟩ = some (.int .u16 ((part4 p 0 : Nat) : Int)) := by rw [show ov + i * 4 = ov + (4 * i + 0) by omega]; exact hcell 0 (by omega)
          have k1 : wr.cell? ⟨bv, ov + i * 4 + 1, none⟩ = some (.int .u16 ((part4 p 1 : Nat) : Int)) := by rw [show ov + i * 4 + 1 = ov + (4 * i + 1) by omega]; exact hcell 1 (by omega)
          have k2 : wr.cell? ⟨bv, ov + i * 4 + 2, none⟩ = some (.int .u16 ((part4 p 2 : Nat) : Int)) := by rw [show ov + i * 4 + 2 = ov + (4 * i + 2) by omega]; exact hcell 2 (by omega)
          have k3 : wr.cell? ⟨bv, ov + i * 4 + 3, none⟩ = some (.int .u16 ((part4 p 3 : Nat) : Int)) := by rw [show ov + i * 4 + 3 = ov + (4 * i + 3) by omega]; exact hcell 3 (by omega)
          clear hcell hcv
          go_wp2_with fail
          go_meet
          exact ⟨rfl, hp_new0 _ _, ⟨HO.out.1.alloc _, HO.out.2.alloc HO.out.2.size _⟩⟩
        · have t1 : decide ((i : Int) < (L.length : Int)) = false := by simp; omega
          have hp0 : p = (0, 0, 0, 0) := by rw [HPD.out, List.getElem?_eq_none (by omega)]; rfl
          go_wp2_with fail
          go_meet
          subst hp0
          exact ⟨rfl, hp_new0 _ _, ⟨HO.out.1.alloc _, HO.out.2.alloc HO.out.2.size _⟩⟩
      case rest =>
        obtain ⟨rfl, hx, hO2⟩ := hcut
        have q0 := hp_cell (j := 0) hx rfl
        have q1 := hp_cell (j := 1) hx rfl
        have q2 := hp_cell (j := 2) hx rfl
        obtain ⟨g1, g2, g3, g4⟩ := HPW4.out
        have l0 : part4 p 0 / 257 ≤ 255 := by have : part4 p 0 < 65536 := g1; omega
        have l1 : part4 p 1 / 257 ≤ 255 := by have : part4 p 1 < 65536 := g2; omega
        have l2 : part4 p 2 / 257 ≤ 255 := by have : part4 p 2 < 65536 := g3; omega
        obtain ⟨v8, w8, r8, o8⟩ := hO2.new [part4 p 0 / 257, part4 p 1 / 257, part4 p 2 / 257] #[.int .u8 ((part4 p 0 / 257 : Nat) : Int), .int .u8 ((part4 p 1 / 257 : Nat) : Int), .int .u8 ((part4 p 2 / 257 : Nat) : Int)] rfl (by omega) (by simp)
        have HR8 := Lib.hid r8
        rw [List.append_assoc, ← HTR.out] at o8
        have HO8 := Lib.hid o8
        clear r8 o8 hO2 hx
        go_wp2_with (at_builtin; refine wpList_app rfl _ _ 22 rfl _ _ _ _ rfl rfl HR8.out ?_)
        go_roundw
        case rel => exact ⟨i + 1, _, rfl, by omega, by go_num, HO8.out⟩
        case measure => simp [intOf]; omega
    · obtain rfl : i = P := by omega
      obtain ⟨O11, hO11e⟩ : ∃ l, l = O7 ++ tabR L (3 * i) (3 * L.length) := ⟨_, rfl⟩
      rw [← hO11e] at hO
      have hl11 : O11.length ≤ 800 := by rw [hO11e, List.length_append, tabR_len, hO7l]; omega
      obtain ⟨r0, r1⟩ := HKP.out _ hO.2
      have hl2 : w2.heap.size < wr.heap.size := Nat.lt_of_lt_of_le hlt2 hO.2.size
      have HO11E := Lib.hid hO11e
      have HO11 := Lib.hid hO
      clear hO hO11e
      go_upto_if 79 with fail
      go_cut [7] (fun s7 wx => OutR wp s7 (O11 ++ (if 0 ≤ cl then [33, 249, 4, 1, 0, 0, cl.toNat % 256, 0] else [])) wx)
      case first =>
        by_cases hcl0 : 0 ≤ cl
        · obtain ⟨x, rfl⟩ : ∃ x : Nat, cl = x := Int.eq_ofNat_of_zero_le hcl0
          have hx : (x : Int).toNat % 256 = x := by omega
          have hx2 : x ≤ 255 := by omega
          have t1 : decide ((0 : Int) ≤ (x : Int)) = true := by simp
          obtain ⟨v12, w12, r12, o12⟩ := HO11.out.new [33, 249, 4, 1, 0, 0, x, 0] #[.int .u8 33, .int .u8 249, .int .u8 4, .int .u8 1, .int .u8 0, .int .u8 0, .int .u8 (x : Nat), .int .u8 0] rfl (by omega) (by simp)
          have HR12 := Lib.hid r12
          have HO12 := Lib.hid o12
          clear r12 o12
          go_wp2_with (at_builtin; refine wpList_app rfl _ _ 22 rfl _ _ _ _ rfl rfl HR12.out ?_)
          go_meet
          rw [if_pos (show (0 : Int) ≤ (x : Int) by omega), hx]
          exact HO12.out
        · have t1 : decide ((0 : Int) ≤ cl) = false := by simp; omega
          go_wp2_with fail
          go_meet
          rw [if_neg (show ¬ 0 ≤ cl by omega), List.append_nil]
          exact HO11.out
      case rest =>
        have hO12 := hcut
        clear hcut
        obtain ⟨O12, hO12e⟩ : ∃ l, l = O11 ++ (if 0 ≤ cl then [33, 249, 4, 1, 0, 0, cl.toNat % 256, 0] else []) := ⟨_, rfl⟩
        rw [← hO12e] at hO12
        have hl12 : O12.length ≤ 900 := by
          rw [hO12e, List.length_append]
          split <;> simp <;> omega
        have HO12E := Lib.hid hO12e
        obtain ⟨sz, hsz⟩ : ∃ sz, sz = max 2 bb := ⟨_, rfl⟩
        have hsz1 : 2 ≤ sz ∧ sz ≤ 8 := by omega
        obtain ⟨s0, s1⟩ := HKR.out _ hO12.2
        obtain ⟨⟨a0, a1⟩, b0, b1⟩ := HAB.out
        obtain ⟨v13, w13, r13, o13⟩ := hO12.new [44, 0, 0, 0, 0, x0, x1, y0, y1, 0, sz] #[.int .u8 44, .int .u8 0, .int .u8 0, .int .u8 0, .int .u8 0, .int .u8 (x0 : Nat), .int .u8 (x1 : Nat), .int .u8 (y0 : Nat), .int .u8 (y1 : Nat), .int .u8 0, .int .u8 (sz : Nat)] rfl (by omega) (by simp)
        have HR13 := Lib.hid r13
        have HO13 := Lib.hid o13
        have HSZ := Lib.hid hsz
        clear r13 o13 hO12 hO12e r0 r1
        have hmx : max (2 : Int) (bb : Int) = (sz : Int) := by omega
        have hxl : idx.length = N := by rw [HIE.out]; exact pl_len _ _
        have hu1 := own_len hxl.symm HU.out
        obtain ⟨Au', cu', heu, m1, m2, m3, m4⟩ := byt_of_row hu1
        rw [hxl] at heu
        injection heu with y1 y2 y3
        subst y1 y3
        have HBU := Lib.hid (show Byt w13 Au idx.length (gz idx) from m4.below (HB2p.out.trans (HO13.out.2.mono HB2p.out.size)))
        have hfz : ∀ v ∈ idx, v < 2 ^ sz := fun v hv => by
          have h1 := HLT.out v hv
          rwa [← hsz] at h1
        have hzl := (wlz_facts sz hsz1.1 hsz1.2 idx hfz _ (Nat.le_refl _)).2
        rw [hxl] at hzl
        have HXL := Lib.hid hxl
        clear hu1 m1 m2 m3 m4 y2 hfz hsz hxl u2
        go_wp2_with (at_builtin; ((with_reducible refine wpList_app (o := ⟨some 105, _, _, _, _, _⟩) ?_ (.tmp 86) (.tmp 104) 22 ?_ _ _ _ _ ?_ ?_ HR13.out ?_); rfl; rfl; rfl; rfl))
        have hcall := write_plain Au cu idx HPL.out sz hsz1.1 hsz1.2 (by rw [HXL.out]; omega) _ HBU.out
        rw [HXL.out] at hcall
        refine hcall.mono ?_
        rintro e w17 ⟨A17, c17, rfl, hN17, hB17⟩
        obtain ⟨z, hz⟩ : ∃ z, z = wlz sz idx := ⟨_, rfl⟩
        rw [show (pack false (cb (sz + 1) ((plC (2 ^ sz) idx).2 ++ [2 ^ sz + 1]))).1 = z from hz.symm] at hN17 ⊢
        rw [← hz] at hzl
        have HZ := Lib.hid hz
        have HN17 := Lib.hid hN17
        obtain ⟨O13, hO13e⟩ : ∃ l, l = O12 ++ [44, 0, 0, 0, 0, x0, x1, y0, y1, 0, sz] := ⟨_, rfl⟩
        rw [← hO13e] at HO13
        have hl13 : O13.length ≤ 920 := by rw [hO13e, List.length_append]; simp; omega
        have HO13E := Lib.hid hO13e
        have ho17 : OutR wp v13 O13 w17 := ⟨own_chg HO13.out.1 (Chg.of_below (S := []) hB17) (fun _ _ => by simp), HO13.out.2.trans (hB17.mono HO13.out.2.size)⟩
        have HO17 := Lib.hid ho17
        clear hcall hN17 hB17 ho17 hz HBU HR13 HO13 hO13e
        go_wp2_with fail
        refine (blk_ref A17 c17 z (fun v hv => by rw [HZ.out] at hv; exact wlz_lt _ _ v hv) HN17.out.le HN17.out.max HN17.out.nil (by omega) _ HN17.out.byt).mono ?_
        rintro e w18 ⟨A18, c18, rfl, hN18, hB18⟩
        have hbl := blkV_len z
        have o18 : OutR wp v13 O13 w18 := ⟨own_chg HO17.out.1 (Chg.of_below (S := []) hB18) (fun _ _ => by simp), HO17.out.2.trans (hB18.mono HO17.out.2.size)⟩
        obtain ⟨v19, w19, r19, o19⟩ := o18.old (blkV z) (A := A18) (cap := c18) (by omega) (by omega) hN18.nil hN18.byt
        obtain ⟨v20, w20, r20, o20⟩ := o19.new [59] #[.int .u8 59] rfl (by rw [List.length_append]; omega) (by simp)
        have hall : O13 ++ blkV z ++ [59] = F := by
          rw [HF.out, HO13E.out, HO12E.out, HO11E.out, HO7E.out, HZ.out, HPE.out, HSZ.out]
          unfold gifD
          rw [HNW.out, HNH.out]
          simp
        rw [hall] at o20
        obtain ⟨o21, b21⟩ := o20
        rw [← cells8_gz] at o21
        obtain ⟨A20, c20, he20, hN20⟩ := NewB.of_own (own_le2 (b' := w.heap.size) HBp.out.size o21)
        subst he20
        have HR19 := Lib.hid r19
        have HR20 := Lib.hid r20
        have HN20 := Lib.hid hN20
        have HBE := Lib.hid (HBp.out.trans (b21.mono HBp.out.size))
        clear hN18 hB18 o18 r19 o19 r20 hall o21 b21 hN20
        go_wp2_with (at_builtin; first | ((with_reducible refine wpList_app (o := ⟨some 112, _, _, _, _, _⟩) ?_ (.tmp 106) (.tmp 111) 22 ?_ _ _ _ _ ?_ ?_ HR19.out ?_); rfl; rfl; rfl; rfl) | ((with_reducible refine wpList_app (o := ⟨some 114, _, _, _, _, _⟩) ?_ (.tmp 112) (.tmp 113) 22 ?_ _ _ _ _ ?_ ?_ HR20.out ?_); rfl; rfl; rfl; rfl))
        go_ret
        exact ⟨A20, c20, rfl, HN20.out, HBE.out⟩
end Go.Proofs.Ytkjlejkcedemlaa

namespace Go.Proofs.Ytkjlejkcedemlaa
set_option maxRecDepth 100000
set_option linter.unusedVariables false
open Go.ChangeShapes Go.WideShapes Go.ChangeAt Go.RowKit

theorem same_self {a b : Int} {n : Nat} (c : Nat → Nat) (h : mayB a b n = true) : sameB a b n c a b n c = true := by
  simp [sameB, h, allEq]
theorem size11 : sizeE ((1 : Nat) : Int) ((1 : Nat) : Int) = 0 := by decide
theorem may11 : mayB ((1 : Nat) : Int) ((1 : Nat) : Int) (4 * 1) = true := by decide
def cV : Nat → Nat := up1 (up1 (fun _ => 0) 2 257) 3 65535
theorem cV_lt (i : Nat) : cV i < 65536 := by
  unfold cV up1
  split
  · omega
  · split
    · omega
    · exact Nat.zero_lt_of_lt (show 0 < 65536 by omega)
theorem fit11 : fitsB ((1 : Nat) : Int) ((1 : Nat) : Int) (4 * (1 * 1)) cV 2 = true := by kernel_rfl
theorem rowsG_five : (rowsG 5).length = 5 := by decide
set_option maxRecDepth 100000 in
set_option maxHeartbeats 4000000 in
theorem awake16 (w : World) : Calls Try.prog 8 #[] w fun e w' => e = .returned (.bool true) ∧ Below w.heap.size w w' := by
  go_enter Try.func8, Try.ntmps8
  go_wp2_with fail
  refine (new_ref (1 : Nat) (1 : Nat) (by unfold In64; omega) (by unfold In64; omega) _).mono ?_
  rintro e w3 ⟨hB, ⟨_, v, rfl, hown⟩ | ⟨h, _⟩⟩
  rotate_left
  · exact absurd size11 h
  have h4N : (4 * ((1 : Nat) : Int) * ((1 : Nat) : Int)).toNat = 4 * 1 := rfl
  rw [h4N, zeros_16] at hown
  obtain ⟨A', cap', rfl, hn', hc', _, hO⟩ := NewRow.of_row hown
  obtain ⟨g, cur, rfl, hgB, _⟩ := hO (by omega)
  have hgr : g < w3.heap.size := (hO.lt g (by omega) rfl).2
  have hal : Below w3.heap.size w3 (w3.alloc (.cells #[.int .i64 1, .int .i64 1, .slice (some ⟨g, 0, none⟩) 4 cap'] 26)) := (Below.refl _ w3).alloc (Nat.le_refl _) _
  have HR4 := Lib.hid (hp_new0 w3 (.cells #[.int .i64 1, .int .i64 1, .slice (some ⟨g, 0, none⟩) 4 cap'] 26))
  have HB5 := Lib.hid (hB.trans (hal.mono hB.size))
  have hO5 := hO.below hal
  have HO5 := Lib.hid hO5
  have hs3 := hB.size
  clear hal hO hB hown
  go_wp2_with fail
  generalize w3.alloc (.cells #[.int .i64 1, .int .i64 1, .slice (some ⟨g, 0, none⟩) 4 cap'] 26) = w5 at *
  obtain ⟨rb, hrb⟩ : ∃ rb, rb = w3.heap.size := ⟨_, rfl⟩
  rw [← hrb] at HR4 hs3 hgr ⊢
  clear hrb
  have k2 := hp_cell (j := 2) HR4.out rfl
  obtain ⟨c2, f2, hgB2, hgl⟩ := own_cellP HO5.out (show 2 < 4 * 1 by omega)
  obtain ⟨c3, f3, _, _⟩ := own_cellP HO5.out (show 3 < 4 * 1 by omega)
  have hO6 : Own (w.heap.size + 1) (((w5.setCell ⟨g, 2, none⟩ (.int .u16 257)).setCell ⟨g, 3, none⟩ (.int .u16 65535)).drew) (some ⟨g, 0, none⟩) (4 * 1) cV := (own_put (own_put HO5.out 2 257) 3 65535).below ((Below.refl _ _).drew)
  have hR6 : (((w5.setCell ⟨g, 2, none⟩ (.int .u16 257)).setCell ⟨g, 3, none⟩ (.int .u16 65535)).drew).heap[rb]? = some (.cells #[.int .i64 1, .int .i64 1, .slice (some ⟨g, 0, none⟩) 4 cap'] 26 (0, 0)) := hp_oth (hp_oth HR4.out (show ¬rb = g by omega)) (show ¬rb = g by omega)
  have hB6 : Below w.heap.size w (((w5.setCell ⟨g, 2, none⟩ (.int .u16 257)).setCell ⟨g, 3, none⟩ (.int .u16 65535)).drew) := ((HB5.out.setCell (p := ⟨g, 2, none⟩) (by simp; omega) (.int .u16 (257 : Nat))).setCell (p := ⟨g, 3, none⟩) (by simp; omega) (.int .u16 (65535 : Nat))).drew
  have HO6 := Lib.hid hO6
  have HR6 := Lib.hid hR6
  have HB6 := Lib.hid hB6
  clear hO6 hR6 hB6 hO5
  go_region
  all_goals
    generalize (((w5.setCell ⟨g, 2, none⟩ (.int .u16 257)).setCell ⟨g, 3, none⟩ (.int .u16 65535)).drew) = w6 at *
    clear c2 f2 c3 f3 k2
    have k0 := hp_cell (j := 0) HR6.out rfl
    have k1 := hp_cell (j := 1) HR6.out rfl
    have k2 := hp_cell (j := 2) HR6.out rfl
    go_wp2_with fail
    refine (plain_yes 1 1 g 0 cap' cV cV_lt fit11 hn' hc' _ (by have := HB6.out.size; have := (own_cellP HO6.out (show 2 < 4 * 1 by omega)).2.2.2; omega) (fun j hj => by rw [Nat.zero_add]; exact (own_cellP HO6.out (show j < 4 * 1 by omega)).1)).mono ?_
    rintro e w7 ⟨gb, capb, rfl, hNw, hB7⟩
    have hBM := decode_plain cV_lt fit11 [59] (by simp) (by simp) gb (gifP cV 1 1 [59]).length capb rfl (gz (gifP cV 1 1 [59])) rfl hNw.le hNw.max hNw.nil w7 hNw.byt
    obtain ⟨m, hm⟩ : ∃ m, m = (gifP cV 1 1 [59]).length := ⟨_, rfl⟩
    rw [← hm] at hBM ⊢
    have HBM := Lib.hid hBM
    have hR7 := hp_below HR6.out hB7 (lt_heap HR6.out)
    have HO7 := Lib.hid (HO6.out.below hB7)
    have HB7 := Lib.hid (HB6.out.trans (hB7.mono HB6.out.size))
    have HR7 := Lib.hid hR7
    clear hBM hm hNw hB7 hR7 k0 k1 k2
    go_wp2_with fail
    refine HBM.out.mono ?_
    rintro e w8 ⟨A8, cap8, rfl, hn8, hc8, hP8', hB8⟩
    have hP8 := hP8'.pix
    have hR8 := hp_below HR7.out hB8 (lt_heap HR7.out)
    have hO8 := HO7.out.below hB8
    have hal8 : Below w8.heap.size w8 (w8.alloc (.cells #[.int .i64 1, .int .i64 1, .slice A8 4 cap8] 26)) := (Below.refl _ w8).alloc (Nat.le_refl _) _
    have hQ9 := hp_new0 w8 (.cells #[.int .i64 1, .int .i64 1, .slice A8 4 cap8] 26)
    have hR9 := hp_below hR8 hal8 (lt_heap hR8)
    have hB9 := HB7.out.trans ((hB8.trans (hal8.mono hB8.size)).mono HB7.out.size)
    have HP9 := Lib.hid (hP8.below hal8)
    have HO9 := Lib.hid (hO8.below hal8).pix
    have HB9 := Lib.hid hB9
    have HQ9 := Lib.hid hQ9
    have HR9 := Lib.hid hR9
    clear hR8 hO8 hal8 hQ9 hR9 hB9 hP8 hP8' hB8
    go_wp2_with fail
    generalize w8.alloc (.cells #[.int .i64 1, .int .i64 1, .slice A8 4 cap8] 26) = w9 at *
    refine (decode_err 2 (by omega) none 0 0 (fun _ => 0) (fun _ => by omega) (gif_short0 _) (by omega) (by unfold maxLen; omega) (fun _ => rfl) w9 (fun h => absurd h (by omega))).mono ?_
    rintro e w10 ⟨rfl, hB10⟩
    have hal10 : Below w10.heap.size w10 (w10.alloc (.cells #[.int .i64 0, .int .i64 0, .slice none 0 0] 26)) := (Below.refl _ w10).alloc (Nat.le_refl _) _
    have hB11 := hB10.trans (hal10.mono hB10.size)
    have hQ11 := hp_below HQ9.out hB11 (lt_heap HQ9.out)
    have hR11 := hp_below HR9.out hB11 (lt_heap HR9.out)
    have HP11 := Lib.hid (HP9.out.below hB11)
    have HO11 := Lib.hid (HO9.out.below hB11)
    have HB11 := Lib.hid (HB9.out.trans (hB11.mono HB9.out.size))
    have k0 := hp_cell (j := 0) hR11 rfl
    have k1 := hp_cell (j := 1) hR11 rfl
    have k2 := hp_cell (j := 2) hR11 rfl
    have q0 := hp_cell (j := 0) hQ11 rfl
    have q1 := hp_cell (j := 1) hQ11 rfl
    have q2 := hp_cell (j := 2) hQ11 rfl
    clear hal10 hB10 hB11 hQ11 hR11
    go_wp2_with fail
    refine (same_ref (1 : Nat) (1 : Nat) (some ⟨g, 0, none⟩) (4 * 1) cap' cV (1 : Nat) (1 : Nat) A8 (4 * 1) cap8 cV (by unfold In64; omega) (by unfold In64; omega) (by unfold In64; omega) (by unfold In64; omega) hn' hc' hn8 hc8 _ HO11.out HP11.out).mono ?_
    rintro e w12 ⟨rfl, hB12⟩
    rw [same_self cV may11]
    have HF := Lib.hid (HB11.out.trans (hB12.mono HB11.out.size))
    clear hB12
    go_wp2_with fail
    refine (rows_prog 5 (by omega) (by omega) _).mono ?_
    rintro e w13 ⟨v, rfl, hown, hB13⟩
    obtain ⟨A13, c13, rfl⟩ : ∃ A c, v = .slice A (rowsG 5).length c := by
      rcases hown.2 with ⟨rfl, h0⟩ | ⟨g, cap, cur, rfl, _⟩
      · exact ⟨none, 0, by rw [rowsG_five] at h0; exact absurd h0 (by simp)⟩
      · exact ⟨_, _, rfl⟩
    rw [rowsG_five]
    have HG := Lib.hid (HF.out.trans (hB13.mono HF.out.size))
    clear hown hB13
    go_wp2
    go_ret
    exact ⟨rfl, HG.out⟩
end Go.Proofs.Ytkjlejkcedemlaa

namespace Go.Proofs.Ytkjlejkcedemlaa
set_option maxRecDepth 100000
set_option linter.unusedVariables false
open Go.ChangeShapes Go.WideShapes Go.ChangeAt Go.RowKit

set_option maxRecDepth 100000 in
set_option maxHeartbeats 4000000 in
theorem decodes_walk (A : Option Addr) (n cap : Nat) (b : Nat → Nat) (hbt : ∀ i, b i < 256) (h1 : n ≤ cap) (h2 : cap ≤ maxLen) (h3 : A = none → cap = 0) (w : World) (hP : Byt w A n b) :
    Calls Try.prog 3 #[.slice A n cap] w fun e w' => e = .returned (.bool true) ∧ Below w.heap.size w w' := by
  have HP := Lib.hid hP
  have HBT := Lib.hid hbt
  clear hP hbt
  go_enter Try.func3, Try.ntmps3
  go_wp2_with fail
  refine (awake16 _).mono ?_
  rintro e w1 ⟨rfl, hB1⟩
  have HP1 := Lib.hid (HP.out.below hB1)
  have HB1 := Lib.hid hB1
  clear hB1
  by_cases c1 : 9000 < n
  · have d1 : decide (9000 < n) = true := by simp; omega
    have d2 : decide ((9000 : Int) < (n : Int)) = true := by simp; omega
    go_wp2
    go_ret
    exact ⟨rfl, HB1.out⟩
  have d1 : decide (9000 < n) = false := by simp; omega
  have d2 : decide ((9000 : Int) < (n : Int)) = false := by simp; omega
  go_wp2_with fail
  refine (decode_g A n cap b HBT.out h1 h2 h3 _ HP1.out).mono ?_
  obtain ⟨X, hX⟩ : ∃ X, X = lowD b 6 2 := ⟨_, rfl⟩
  obtain ⟨Y, hY⟩ : ∃ Y, Y = lowD b 8 2 := ⟨_, rfl⟩
  have hX2 : X < 65536 := by rw [hX, low_two]; have := HBT.out 6; have := HBT.out (6 + 1); omega
  have hY2 : Y < 65536 := by rw [hY, low_two]; have := HBT.out 8; have := HBT.out (8 + 1); omega
  have REF := fun w => gif_ref A n cap b HBT.out h1 h2 h3 w
  rw [← hX, ← hY] at REF ⊢
  have hsm : (gifG b n).2 = 0 → sizeE (X : Nat) (Y : Nat) = 0 := fun h => by
    rw [hX, hY]
    exact gifG_size b n h
  have hlt : (gifG b n).2 < 1000 := gifG_lt b n
  generalize gifG b n = q at *
  obtain ⟨d, x⟩ := q
  dsimp only at hsm hlt REF ⊢
  have HREF := Lib.hid REF
  have HSM := Lib.hid hsm
  clear hX hY REF hsm
  rintro e w2 ⟨hB2, ⟨h0, A2, cap2, k1, k2, rfl, hO⟩ | ⟨h0, rfl⟩⟩
  · dsimp only at h0
    subst h0
    have hs := HSM.out rfl
    have hm : mayB (X : Nat) (Y : Nat) (4 * (X * Y)) = true := by
      unfold mayB
      exact decide_eq_true ⟨hs, by simp [Int.mul_assoc]⟩
    have hal : Below w2.heap.size w2 (w2.alloc (.cells #[.int .i64 (X : Nat), .int .i64 (Y : Nat), .slice A2 (4 * (X * Y)) cap2] 26)) := (Below.refl _ w2).alloc (Nat.le_refl _) _
    have HQ := Lib.hid (hp_new0 w2 (.cells #[.int .i64 (X : Nat), .int .i64 (Y : Nat), .slice A2 (4 * (X * Y)) cap2] 26))
    have HO := Lib.hid (hO.below hal)
    have hB3 := hB2.trans (hal.mono hB2.size)
    have HP3 := Lib.hid (HP1.out.below hB3)
    have HB3 := Lib.hid (HB1.out.trans (hB3.mono HB1.out.size))
    have HMB := Lib.hid hm
    clear hal hO hB2 hB3 hs hm
    go_wp2_with fail
    generalize w2.alloc (.cells #[.int .i64 (X : Nat), .int .i64 (Y : Nat), .slice A2 (4 * (X * Y)) cap2] 26) = w3 at *
    refine (HREF.out _ HP3.out).mono ?_
    rintro e w4 ⟨hB4, ⟨_, A4, cap4, k3, k4, rfl, hO4⟩ | ⟨h0, _⟩⟩
    rotate_left
    · exact absurd rfl h0
    have hal : Below w4.heap.size w4 (w4.alloc (.cells #[.int .i64 (X : Nat), .int .i64 (Y : Nat), .slice A4 (4 * (X * Y)) cap4] 26)) := (Below.refl _ w4).alloc (Nat.le_refl _) _
    have hB5 := hB4.trans (hal.mono hB4.size)
    have hQ5 := hp_below HQ.out hB5 (lt_heap HQ.out)
    have hR5 := hp_new0 w4 (.cells #[.int .i64 (X : Nat), .int .i64 (Y : Nat), .slice A4 (4 * (X * Y)) cap4] 26)
    have HO5 := Lib.hid (HO.out.below hB5).pix
    have HO6 := Lib.hid (hO4.below hal).pix
    have HB5 := Lib.hid (HB3.out.trans (hB5.mono HB3.out.size))
    have q0 := hp_cell (j := 0) hQ5 rfl
    have q1 := hp_cell (j := 1) hQ5 rfl
    have q2 := hp_cell (j := 2) hQ5 rfl
    have r0 := hp_cell (j := 0) hR5 rfl
    have r1 := hp_cell (j := 1) hR5 rfl
    have r2 := hp_cell (j := 2) hR5 rfl
    clear hal hB4 hB5 hQ5 hR5 hO4
    go_wp2_with fail
    refine (same14_ok (X : Nat) (Y : Nat) A2 (4 * (X * Y)) cap2 d (X : Nat) (Y : Nat) A4 (4 * (X * Y)) cap4 d (by unfold In64; omega) (by unfold In64; omega) (by unfold In64; omega) (by unfold In64; omega) k1 k2 k3 k4 _ HO5.out HO6.out).mono ?_
    rintro e w6 ⟨rfl, hB6⟩
    rw [same_self d HMB.out]
    have HF := Lib.hid (HB5.out.trans (hB6.mono HB5.out.size))
    clear hB6
    go_wp2
    go_ret
    exact ⟨rfl, HF.out⟩
  · dsimp only at h0 hlt
    have hal : Below w2.heap.size w2 (w2.alloc (.cells #[.int .i64 0, .int .i64 0, .slice none 0 0] 26)) := (Below.refl _ w2).alloc (Nat.le_refl _) _
    have HQ := Lib.hid (hp_new0 w2 (.cells #[.int .i64 0, .int .i64 0, .slice none 0 0] 26))
    have hB3 := hB2.trans (hal.mono hB2.size)
    have HP3 := Lib.hid (HP1.out.below hB3)
    have HB3 := Lib.hid (HB1.out.trans (hB3.mono HB1.out.size))
    clear hal hB2 hB3
    go_wp2_with fail
    generalize w2.alloc (.cells #[.int .i64 0, .int .i64 0, .slice none 0 0] 26) = w3 at *
    refine (HREF.out _ HP3.out).mono ?_
    rintro e w4 ⟨hB4, ⟨h9, _⟩ | ⟨_, rfl⟩⟩
    · exact absurd h9 h0
    have hal : Below w4.heap.size w4 (w4.alloc (.cells #[.int .i64 0, .int .i64 0, .slice none 0 0] 26)) := (Below.refl _ w4).alloc (Nat.le_refl _) _
    have hB5 := hB4.trans (hal.mono hB4.size)
    have hQ5 := hp_below HQ.out hB5 (lt_heap HQ.out)
    have hR5 := hp_new0 w4 (.cells #[.int .i64 0, .int .i64 0, .slice none 0 0] 26)
    have HB5 := Lib.hid (HB3.out.trans (hB5.mono HB3.out.size))
    have q0 := hp_cell (j := 0) hQ5 rfl
    have q1 := hp_cell (j := 1) hQ5 rfl
    have q2 := hp_cell (j := 2) hQ5 rfl
    have r0 := hp_cell (j := 0) hR5 rfl
    have r1 := hp_cell (j := 1) hR5 rfl
    have r2 := hp_cell (j := 2) hR5 rfl
    clear hal hB4 hB5 hQ5 hR5
    go_wp2_with fail
    refine (same14_err x h0 hlt 0 0 none 0 0 _).mono ?_
    rintro e w6 ⟨rfl, hB6⟩
    have HF := Lib.hid (HB5.out.trans (hB6.mono HB5.out.size))
    clear hB6
    go_wp2
    go_ret
    exact ⟨rfl, HF.out⟩
end Go.Proofs.Ytkjlejkcedemlaa

namespace Go.Proofs.Ytkjlejkcedemlaa
set_option maxRecDepth 100000
set_option linter.unusedVariables false
open Go.ChangeShapes Go.WideShapes Go.ChangeAt Go.RowKit

theorem rows_slice {w : World} {base n : Nat} {v : Value} {l : List Nat} (h : w.ownsRow base 3 1 v n (cellsI l)) (hl : l.length = n) (hn : 0 < n) : ∃ g cap, v = .slice (some ⟨g, 0, none⟩) n cap ∧ base ≤ g ∧ g < w.heap.size ∧ ∀ j, j < n → w.cell? ⟨g, j, none⟩ = some (.int .i64 ((gz l j : Nat) : Int)) := by
  have h0 := h
  obtain ⟨h1, h2⟩ := h
  rcases h2 with ⟨rfl, h3⟩ | ⟨g, cap, cur, rfl, hB, hg, hnc, hcm, hcs, ht⟩
  · omega
  · refine ⟨g, cap, rfl, hB, (h0.lt g rfl).2, fun j hj => ?_⟩
    refine row_get h0 ?_
    unfold cellsI gz
    rw [List.getElem?_map, List.getElem?_eq_getElem (by omega)]
    rfl
set_option maxRecDepth 100000 in
set_option maxHeartbeats 4000000 in
theorem rows_walk (h : Int) (hh : In64 h) (w : World) : Calls Try.prog 4 #[.int .i64 h] w fun e w' => e = .returned (.bool true) ∧ Below w.heap.size w w' := by
  obtain ⟨i0, hi0, hz0, hz1, hz2⟩ := info_parts infoB
  have hh' := hh
  unfold In64 at hh'
  go_enter Try.func4, Try.ntmps4
  go_wp2_with fail
  refine (awake16 _).mono ?_
  rintro e w1 ⟨rfl, hB1⟩
  have HB1 := Lib.hid hB1
  clear hB1
  by_cases hr : h < 1 ∨ 256 < h
  · go_wp2_with fail
    refine (rows_none h hh hr _).mono ?_
    rintro e w2 ⟨rfl, rfl⟩
    go_wp2_with fail
    refine (rowsr_none h hh hr _).mono ?_
    rintro e w3 ⟨rfl, rfl⟩
    obtain ⟨w2, hmk, hown2, hgrow2⟩ := run_makeSlice_full (P := Try.prog) (w := w3) w3.heap.size 36 4 i0 _ 1 Try.underlying36 hi0 hz0 hz1 .i64 .i64 0 (by omega) (by rw [hz2]; omega) (by unfold maxLen; omega) (Nat.le_refl _)
    have hB2 : Below w.heap.size w w2 := HB1.out.grown hgrow2 HB1.out.size (fun k e => by cases e)
    have HB2 := Lib.hid hB2
    clear hown2 hgrow2 hB2
    rw [show ((0 : Nat) : Int) = 0 from rfl] at hmk
    go_wp2_with fail
    clear hmk
    go_loopw [6] (fun s6 wr => s6 = .int .i64 0 ∧ wr = w2) (fun s6 _ => 0)
    case atStart => exact ⟨rfl, rfl⟩
    case round =>
      obtain ⟨rfl, rfl⟩ := hrel
      by_cases h1 : h < 1
      · have d1 : decide (h < 1) = true := decide_eq_true h1
        by_cases h0 : 0 = h
        · subst h0
          go_wp2
          go_ret
          exact ⟨rfl, HB2.out⟩
        · have d4 : ((0 : Int) == h) = false := by simp; omega
          go_wp2
          go_ret
          exact ⟨rfl, HB2.out⟩
      · have d1 : decide (h < 1) = false := decide_eq_false h1
        have d2 : decide (256 < h) = true := decide_eq_true (by omega)
        have d4 : ((0 : Int) == h) = false := by simp; omega
        go_wp2
        go_ret
        exact ⟨rfl, HB2.out⟩
  obtain ⟨H, rfl⟩ : ∃ H : Nat, h = H := Int.eq_ofNat_of_zero_le (by omega)
  have hH1 : 1 ≤ H := by omega
  have hH2 : H ≤ 256 := by omega
  have hlen := rowsG_len H hH1
  go_wp2_with fail
  refine (rows_prog H hH1 hH2 _).mono ?_
  rintro e w2 ⟨v, rfl, hown, hB2⟩
  rw [hlen] at hown
  obtain ⟨ga, ca, rfl, ha1, ha2, ha3⟩ := rows_slice hown hlen (by omega)
  have HA3 := Lib.hid ha3
  have HB2 := Lib.hid (HB1.out.trans (hB2.mono HB1.out.size))
  clear hown hB2 ha3
  go_wp2_with fail
  refine (rows_ref H hH1 hH2 _).mono ?_
  rintro e w3 ⟨v, rfl, hown, hB3⟩
  rw [hlen] at hown
  obtain ⟨gb, cb, rfl, hb1, hb2, hb3⟩ := rows_slice hown hlen (by omega)
  obtain ⟨w4, hmk, hown4, hgrow4⟩ := run_makeSlice_full (P := Try.prog) (w := w3) w3.heap.size 36 4 i0 _ 1 Try.underlying36 hi0 hz0 hz1 .i64 .i64 H (by omega) (by rw [hz2]; omega) (by unfold maxLen; omega) (Nat.le_refl _)
  have hB4 : Below w3.heap.size w3 w4 := (Below.refl _ w3).grown hgrow4 (Nat.le_refl _) (fun k e => by cases e)
  have hz9 : (madeCells (Value.bool false).cells (H * 1)).toList = seenL ((rowsG H).take 0) H := by
    rw [Nat.mul_one, show (Value.bool false).cells = #[Value.bool false] from rfl, toList_madeCells_one]
    simp [seenL, List.map_const']
  rw [hz9] at hown4
  have HA4 := Lib.hid (show ∀ W', Below w3.heap.size w4 W' → (∀ j, j < H → W'.cell? ⟨ga, j, none⟩ = some (.int .i64 ((gz (rowsG H) j : Nat) : Int))) ∧ (∀ j, j < H → W'.cell? ⟨gb, j, none⟩ = some (.int .i64 ((gz (rowsG H) j : Nat) : Int))) from fun W' hb => by
    have h43 := hB4.trans hb
    refine ⟨fun j hj => ?_, fun j hj => ?_⟩
    · refine (h43.cell (p := ⟨ga, j, none⟩) (by show ga < _; have := hB3.size; omega)).trans ((hB3.cell (p := ⟨ga, j, none⟩) ha2).trans (HA3.out j hj))
    · exact (h43.cell (p := ⟨gb, j, none⟩) hb2).trans (hb3 j hj))
  have HB4 := Lib.hid (HB2.out.trans ((hB3.trans (hB4.mono hB3.size)).mono HB2.out.size))
  have hs3 : w.heap.size ≤ w3.heap.size := Nat.le_trans HB2.out.size hB3.size
  have HLT := Lib.hid (rowsG_lt H)
  have HND := Lib.hid (rowsG_nodup H)
  have HLEN := Lib.hid hlen
  obtain ⟨g, hg⟩ : ∃ g, g = w3.heap.size := ⟨_, rfl⟩
  rw [← hg] at hown4 hmk HA4 hs3
  have H0 : Hid (w4.ownsRow g 4 1 (.slice (some ⟨g, 0, none⟩) H H) H (seenL ((rowsG H).take 0) H)) := Lib.hid hown4
  clear hown hB3 hB4 hb3 hgrow4 hz9 hown4 hg ha1 hb1 ha2 hb2 hlen
  go_wp2_with fail
  clear hmk
  go_loopw [6] (fun s6 wr => ∃ i : Nat, i ≤ H ∧ s6 = .int .i64 (i : Nat) ∧ wr.ownsRow g 4 1 (.slice (some ⟨g, 0, none⟩) H H) H (seenL ((rowsG H).take i) H) ∧ Below g w4 wr) (fun s6 _ => H - (intOf s6).toNat)
  case atStart => exact ⟨0, by omega, rfl, H0.out, Below.refl _ _⟩
  case round =>
    clear H0
    obtain ⟨i, hi, rfl, hO, hB⟩ := hrel
    by_cases hlt : i < H
    · obtain ⟨A4, B4⟩ := HA4.out _ hB
      have ca1 := A4 i hlt
      have cb1 := B4 i hlt
      have hget : (rowsG H)[i]? = some (gz (rowsG H) i) := by
        unfold gz
        rw [List.getElem?_eq_getElem (by rw [HLEN.out]; exact hlt)]
        rfl
      have hx := HLT.out _ (List.mem_of_getElem? hget)
      have hnm : gz (rowsG H) i ∉ (rowsG H).take i := fun hm => by
        obtain ⟨j, he⟩ := List.mem_iff_getElem?.1 hm
        have hj := (List.getElem?_eq_some_iff.1 he).1
        rw [List.length_take] at hj
        rw [List.getElem?_take, if_pos (by omega)] at he
        have hl := HLEN.out
        have := (List.getElem?_inj (by omega) HND.out).1 (he.trans hget.symm)
        omega
      have htk : (rowsG H).take (i + 1) = (rowsG H).take i ++ [gz (rowsG H) i] := by rw [List.take_add_one, hget]; rfl
      have hsn := row_get hO (seenL_get (l := (rowsG H).take i) hx)
      rw [decide_eq_false hnm] at hsn
      have HTK := Lib.hid htk
      have HO := Lib.hid hO
      have HBR := Lib.hid hB
      obtain ⟨x, hxe⟩ : ∃ x, x = gz (rowsG H) i := ⟨_, rfl⟩
      rw [← hxe] at ca1 cb1 hsn hx
      have HXE := Lib.hid hxe
      have x1 : decide ((x : Int) < 0) = false := decide_eq_false (by omega)
      have x2 : decide ((H : Int) ≤ (x : Int)) = false := decide_eq_false (by omega)
      clear A4 B4 hget hnm htk hO hB hxe
      go_upto_region 10 with fail
      go_quiet (fail)
      have hBq : Hid (Below g w4 (wr.drewN nq)) := Lib.hid (below_drewN HBR.out nq)
      have hOq : Hid ((wr.drewN nq).ownsRow g 4 1 (.slice (some ⟨g, 0, none⟩) H H) H (seenL ((rowsG H).take i) H)) := Lib.hid (own_chg HO.out (Chg.of_below (S := []) (below_drewN (Below.refl wr.heap.size wr) nq)) (fun _ _ => by simp))
      clear ca1 cb1 hsn x1 x2 HO HBR
      generalize wr.drewN nq = wq at *
      have ca1 := (HA4.out _ hBq.out).1 i hlt
      rw [← HXE.out] at ca1
      have hst := row_set (j := x) (x := .bool true) hOq.out
      rw [seenL_set, HXE.out, ← HTK.out, ← HXE.out] at hst
      have hfr := own_froz hOq.out
      have hsn := row_get hOq.out (seenL_get (l := (rowsG H).take i) hx)
      have HST := Lib.hid hst
      have HBS := Lib.hid (hBq.out.setCell (p := ⟨g, x, none⟩) (Nat.le_refl _) (.bool true))
      have hBr := hBq.out.size
      have hgl : g < wq.heap.size := (hOq.out.lt g rfl).2
      clear hst
      go_wp2_with fail
      go_roundw
      case rel => exact ⟨i + 1, by omega, by go_num, HST.out, HBS.out⟩
      case measure => simp [intOf]; omega
    · obtain rfl : i = H := by omega
      have HF := Lib.hid (HB4.out.trans (hB.mono hs3))
      clear hO hB
      go_wp2
      go_ret
      exact ⟨rfl, HF.out⟩
end Go.Proofs.Ytkjlejkcedemlaa

namespace Go.Proofs.Ytkjlejkcedemlaa
set_option maxRecDepth 100000
set_option linter.unusedVariables false
open Go.ChangeShapes Go.WideShapes Go.ChangeAt Go.RowKit

theorem pic16 {a b : Int} {n : Nat} {c : Nat → Nat} (h : fitsB a b n c 2 = true) : ∃ W H : Nat, a = (W : Int) ∧ b = (H : Int) ∧ n = 4 * (W * H) ∧ (1 ≤ W ∧ W ≤ 256) ∧ (1 ≤ H ∧ H ≤ 256) ∧ W * H ≤ 16384 ∧ 0 < n := by
  have hm := fits_may h
  obtain ⟨hz, hn⟩ := may_ok hm
  obtain ⟨h1, h2, h3, h4, h5⟩ := size_ok hz
  obtain ⟨W, rfl⟩ := Int.eq_ofNat_of_zero_le (show 0 ≤ a by omega)
  obtain ⟨H, rfl⟩ := Int.eq_ofNat_of_zero_le (show 0 ≤ b by omega)
  have e1 : (W : Int) * (H : Int) = ((W * H : Nat) : Int) := by simp
  have e2 : 1 * 1 ≤ W * H := Nat.mul_le_mul (by omega) (by omega)
  rw [e1] at h5
  have hn4 : n = 4 * (W * H) := by
    rw [Int.mul_assoc, e1] at hn
    omega
  exact ⟨W, H, rfl, rfl, hn4, ⟨by omega, by omega⟩, ⟨by omega, by omega⟩, by omega, by omega⟩
/-- Plain of a picture that has a palette. -/
theorem plain_pix (W H n : Nat) (hn : n = 4 * (W * H)) (hn0 : 0 < n) (A : Option Addr) (cap : Nat) (c : Nat → Nat) (hc : ∀ i, c i < 65536) (hfit : fitsB (W : Nat) (H : Nat) n c 2 = true) (hcap : n ≤ cap) (hmax : cap ≤ maxLen) (w : World) (hP : Pix w A n c) :
    Calls Try.prog 14 #[.agg #[.int .i64 (W : Nat), .int .i64 (H : Nat), .slice A n cap]] w fun e w' => ∃ A' cap' m, m = (gifP c W H []).length + 1 ∧ 14 ≤ (gifP c W H []).length ∧ m ≤ 2 * n + 821 ∧ e = .returned (.slice A' m cap') ∧ NewB w.heap.size w' m A' cap' (gz (gifP c W H [59])) ∧ Below w.heap.size w w' := by
  subst hn
  obtain ⟨bk, off, rfl, hlt, hcl⟩ := hP hn0
  obtain ⟨l1, l2⟩ := gifP_len hc hfit
  have e : (gifP c W H [59]).length = (gifP c W H []).length + 1 := by rw [gifP_tail, List.length_append]; rfl
  refine (plain_yes W H bk off cap c hc hfit hcap hmax w hlt hcl).mono ?_
  rw [e]
  rintro e w' ⟨A', cap', rfl, hN, hB⟩
  exact ⟨A', cap', _, rfl, l1, by omega, rfl, hN, hB⟩
/-- gifread.Decode of the plainest file, with whatever behind it. -/
theorem dec_pix (W H n : Nat) (hn : n = 4 * (W * H)) (c : Nat → Nat) (hc : ∀ i, c i < 65536) (hfit : fitsB (W : Nat) (H : Nat) n c 2 = true) (tl : List Nat) (ht : ∀ v ∈ tl, v < 256) (htl : tl.length ≤ 100000)
    (A : Option Addr) (m cap : Nat) (hm : m = (gifP c W H []).length + tl.length) (h1 : m ≤ cap) (h2 : cap ≤ maxLen) (h3 : A = none → cap = 0) (w : World) (hB : Byt w A m (gz (gifP c W H tl))) :
    Calls Try.prog 9 #[.slice A m cap] w fun e w' => ∃ A' cap', e = .returned (.tuple #[.agg #[.int .i64 (W : Nat), .int .i64 (H : Nat), .slice A' n cap'], .int .i64 0]) ∧ n ≤ cap' ∧ cap' ≤ maxLen ∧ Own w.heap.size w' A' n c ∧ Below w.heap.size w w' := by
  subst hn
  exact decode_plain hc hfit tl ht htl A m cap (by rw [hm, gifP_tail c W H tl, List.length_append]) _ rfl h1 h2 h3 w hB
/-- The front of bytes, copied behind nothing. -/
theorem front_new {w : World} {A : Option Addr} {m k cap : Nat} {b : Nat → Nat} (hB : Byt w A m b) (hk : k ≤ m) (l : List Nat) (hl : l.length = k) (hb : ∀ j, j < k → b j = gz l j) (hcap : A = none → cap = 0) (hk2 : k ≤ 900000) :
    ∃ v2 W2, (Builtin.append_ #[22, 22] 22 #[.slice (some ⟨w.heap.size, 0, none⟩) 0 0, .slice A k cap]).run Try.prog (w.alloc (.cells #[] 5)) = .ok v2 W2 ∧ OutR w v2 l W2 := by
  have o0 := OutR.first (w0 := w) (w := w) [] #[] rfl (by simp) (Below.refl _ _)
  have hP : Byt (w.alloc (.cells #[] 5)) A l.length (gz l) := fun hn => by
    obtain ⟨bk, off, rfl, hlt, hc⟩ := hB (by omega)
    have hal : Below w.heap.size w (w.alloc (.cells #[] 5)) := (Below.refl _ w).alloc (Nat.le_refl _) _
    refine ⟨bk, off, rfl, Nat.lt_of_lt_of_le hlt hal.size, fun j hj => ?_⟩
    rw [(hal.cell (p := ⟨bk, off + j, none⟩) hlt).trans (hc j (by omega)), hb j (by omega)]
  obtain ⟨v2, W2, r, o⟩ := o0.old l (A := A) (cap := cap) (by simp) (by omega) hcap hP
  rw [hl] at r
  exact ⟨v2, W2, r, by simpa using o⟩
set_option maxRecDepth 100000 in
set_option maxHeartbeats 4000000 in
theorem gplain_walk (a b : Int) (A : Option Addr) (n cap : Nat) (c : Nat → Nat) (hc : ∀ i, c i < 65536) (ha : In64 a) (hb : In64 b) (hn : n ≤ cap) (hmax : cap ≤ maxLen) (At : Option Addr) (nt ct : Nat) (d : Nat → Nat) (hd : ∀ i, d i < 256) (ht1 : nt ≤ ct) (ht2 : ct ≤ maxLen) (ht3 : At = none → ct = 0) (w : World) (hP : Pix w A n c) (hT : Byt w At nt d) :
    Calls Try.prog 5 #[.agg #[.int .i64 a, .int .i64 b, .slice A n cap], .slice At nt ct] w fun e w' => e = .returned (.bool true) ∧ Below w.heap.size w w' := by
  have HB := Lib.hid ((Below.refl _ w).alloc (Nat.le_refl _) (.cells #[.int .i64 a, .int .i64 b, .slice A n cap] 26))
  have HX := Lib.hid (hp_new0 w (.cells #[.int .i64 a, .int .i64 b, .slice A n cap] 26))
  have HP := Lib.hid (hP.below HB.out)
  have HT := Lib.hid (hT.below HB.out)
  have HC := Lib.hid hc
  have HD := Lib.hid hd
  clear hP hc hT hd
  go_enter Try.func5, Try.ntmps5
  go_wp2_with fail
  generalize w.alloc (.cells #[.int .i64 a, .int .i64 b, .slice A n cap] 26) = w1 at *
  refine (awake16 _).mono ?_
  rintro e w2 ⟨rfl, hB2⟩
  have HB2 := Lib.hid (HB.out.trans (hB2.mono HB.out.size))
  have HX2 := Lib.hid (hp_below HX.out hB2 (lt_heap HX.out))
  have HP2 := Lib.hid (HP.out.below hB2)
  have HT2 := Lib.hid (HT.out.below hB2)
  clear hB2
  have k0 := hp_cell (j := 0) HX2.out rfl
  have k1 := hp_cell (j := 1) HX2.out rfl
  have k2 := hp_cell (j := 2) HX2.out rfl
  by_cases hbig : 8000 < n
  · have hbg : decide ((8000 : Int) < (n : Int)) = true := decide_eq_true (by omega)
    go_wp2_with fail
    go_ret
    exact ⟨rfl, HB2.out⟩
  have hbg : decide ((8000 : Int) < (n : Int)) = false := decide_eq_false (by omega)
  by_cases htb : 1000 < nt
  · have htg : decide ((1000 : Int) < (nt : Int)) = true := decide_eq_true (by omega)
    go_wp2_with fail
    go_ret
    exact ⟨rfl, HB2.out⟩
  have htg : decide ((1000 : Int) < (nt : Int)) = false := decide_eq_false (by omega)
  cases hf : fitsB a b n c 2 with
  | false =>
    go_wp2_with fail
    refine (plain_no a b A n cap c HC.out ha hb hf hn hmax _ HP2.out).mono ?_
    rintro e w3 ⟨rfl, hB3⟩
    have HB3 := Lib.hid (HB2.out.trans (hB3.mono HB2.out.size))
    clear hB3 k0 k1 k2 hf
    go_wp2_with fail
    go_ret
    exact ⟨rfl, HB3.out⟩
  | true =>
  obtain ⟨W, H, rfl, rfl, hn4, hW, hH, hWH, hn0⟩ := pic16 hf
  have HF2 := Lib.hid hf
  have HN4 := Lib.hid hn4
  have HM := Lib.hid (fits_may hf)
  clear hf hn4
  go_wp2_with fail
  refine (plain_pix W H n HN4.out hn0 A cap c HC.out HF2.out hn hmax _ HP2.out).mono ?_
  rintro e w3 ⟨A3, cap3, m, hm3, hm14, hmb, rfl, hN3, hB3⟩
  have HB3 := Lib.hid (HB2.out.trans (hB3.mono HB2.out.size))
  have HX3 := Lib.hid (hp_below HX2.out hB3 (lt_heap HX2.out))
  have HP3 := Lib.hid (HP2.out.below hB3)
  have HT3 := Lib.hid (HT2.out.below hB3)
  have HN3 := Lib.hid hN3
  obtain ⟨M, hM⟩ : ∃ M, M = (gifP c W H []).length := ⟨_, rfl⟩
  rw [← hM] at hm3 hm14
  subst hm3
  have HML := Lib.hid hM
  clear hB3 k0 k1 k2 hN3 hM
  have z0 : ((M : Int) + 1 == 0) = false := beq_eq_false_iff_ne.2 (by omega)
  go_wp2_with fail
  refine (dec_pix W H n HN4.out c HC.out HF2.out [59] (by simp) (by simp) A3 (M + 1) cap3 (by rw [HML.out]; rfl) HN3.out.le HN3.out.max HN3.out.nil w3 HN3.out.byt).mono ?_
  rintro e w6 ⟨A6, cap6, rfl, hn6, hc6, hO6, hB6⟩
  have hal6 : Below w6.heap.size w6 (w6.alloc (.cells #[.int .i64 (W : Nat), .int .i64 (H : Nat), .slice A6 n cap6] 26)) := (Below.refl _ w6).alloc (Nat.le_refl _) _
  have hb7 := hB6.trans (hal6.mono hB6.size)
  have HB7 := Lib.hid (HB3.out.trans (hb7.mono HB3.out.size))
  have HX7 := Lib.hid (hp_below HX3.out hb7 (lt_heap HX3.out))
  have HP7 := Lib.hid (HP3.out.below hb7)
  have HT7 := Lib.hid (HT3.out.below hb7)
  have HN7 := Lib.hid (HN3.out.chgB hb7)
  have HQ7 := Lib.hid (hO6.below hal6).pix
  have HY7 := Lib.hid (hp_new0 w6 (.cells #[.int .i64 (W : Nat), .int .i64 (H : Nat), .slice A6 n cap6] 26))
  clear hB6 hal6 hb7 hO6
  go_upto_region 9 with fail
  generalize w6.alloc (.cells #[.int .i64 (W : Nat), .int .i64 (H : Nat), .slice A6 n cap6] 26) = w7 at *
  obtain ⟨y7, hy7⟩ : ∃ y7, y7 = w6.heap.size := ⟨_, rfl⟩
  rw [← hy7] at HY7 ⊢
  clear hy7 z0
  obtain ⟨tl, htl⟩ : ∃ tl, tl = (List.range nt).map d := ⟨_, rfl⟩
  have htn : tl.length = nt := by rw [htl]; simp
  have hty : Byt w7 At tl.length (gz tl) := by rw [htl]; exact byt_gz HT7.out
  have ht256 : ∀ v ∈ tl, v < 256 := by
    intro v hv
    rw [htl] at hv
    obtain ⟨i, _, rfl⟩ := List.mem_map.1 hv
    exact HD.out i
  have rs := run_hi A3 (M + 1) cap3 M (by have := HN3.out.le; omega)
  obtain ⟨v8, w8, r8, o8⟩ := front_new HN7.out.byt (k := M) (cap := cap3) (by omega) (gifP c W H []) HML.out.symm (fun j hj => by rw [gifP_tail]; exact gz_append_left (by rw [← HML.out]; exact hj)) HN3.out.nil (by omega)
  obtain ⟨v9, w9, r9, o9⟩ := o8.old tl (A := At) (cap := ct) (by rw [← HML.out]; omega) (by omega) ht3 (hty.below o8.2)
  rw [htn] at r9
  rw [← gifP_tail] at o9
  obtain ⟨o9r, b9⟩ := o9
  rw [← cells8_gz] at o9r
  obtain ⟨A9, cap9, he9, hN9⟩ := NewB.of_own o9r
  have hl9 : (gifP c W H tl).length = M + nt := by rw [gifP_tail, List.length_append, ← HML.out, htn]
  rw [hl9] at he9 hN9
  subst he9
  have HR8 := Lib.hid r8
  have HR9 := Lib.hid r9
  have HN9 := Lib.hid hN9
  have HB9 := Lib.hid b9
  have HTL := Lib.hid htn
  have HT6 := Lib.hid ht256
  clear r8 o8 r9 o9r b9 hN9 htl hty hl9 ht256 htn
  have j1 : IntKind.i64.wrap ((M : Int) + 1 - 1) = (M : Int) := by rw [Int.add_sub_cancel]; exact IntWalk.i64_in _ (by omega)
  have j2 : (M : Int) + 1 - 1 = (M : Int) := by omega
  go_wp2_with (at_builtin; first | ((with_reducible refine wpList_app (o := ⟨some 38, _, _, _, _, _⟩) ?_ (.tmp 32) (.tmp 37) 22 ?_ _ _ _ _ ?_ ?_ HR8.out ?_); rfl; rfl; rfl; rfl) | ((with_reducible refine wpList_app (o := ⟨some 40, _, _, _, _, _⟩) ?_ (.tmp 38) (.tmp 39) 22 ?_ _ _ _ _ ?_ ?_ HR9.out ?_); rfl; rfl; rfl; rfl))
  clear rs j1 j2
  refine (dec_pix W H n HN4.out c HC.out HF2.out tl HT6.out (by rw [HTL.out]; omega) A9 (M + nt) cap9 (by rw [HML.out, HTL.out]) HN9.out.le HN9.out.max HN9.out.nil w9 HN9.out.byt).mono ?_
  rintro e w10 ⟨A8, cap8, rfl, hn8, hc8, hO8, hB8⟩
  have hal8 : Below w10.heap.size w10 (w10.alloc (.cells #[.int .i64 (W : Nat), .int .i64 (H : Nat), .slice A8 n cap8] 26)) := (Below.refl _ w10).alloc (Nat.le_refl _) _
  have hb9 := HB9.out.trans ((hB8.trans (hal8.mono hB8.size)).mono HB9.out.size)
  have HBB := Lib.hid (HB7.out.trans (hb9.mono HB7.out.size))
  have HXX := Lib.hid (hp_below HX7.out hb9 (lt_heap HX7.out))
  have HPP := Lib.hid (HP7.out.below hb9)
  have HQQ := Lib.hid (HQ7.out.below hb9)
  have HYY := Lib.hid (hp_below HY7.out hb9 (lt_heap HY7.out))
  have HVV := Lib.hid (hO8.below hal8).pix
  have HZZ := Lib.hid (hp_new0 w10 (.cells #[.int .i64 (W : Nat), .int .i64 (H : Nat), .slice A8 n cap8] 26))
  have k0 := hp_cell (j := 0) HXX.out rfl
  have k1 := hp_cell (j := 1) HXX.out rfl
  have k2 := hp_cell (j := 2) HXX.out rfl
  have y0 := hp_cell (j := 0) HYY.out rfl
  have y1 := hp_cell (j := 1) HYY.out rfl
  have y2 := hp_cell (j := 2) HYY.out rfl
  clear hB8 hal8 hb9 hO8
  go_wp2_with fail
  generalize w10.alloc (.cells #[.int .i64 (W : Nat), .int .i64 (H : Nat), .slice A8 n cap8] 26) = w11 at *
  obtain ⟨y9, hy9⟩ : ∃ y9, y9 = w10.heap.size := ⟨_, rfl⟩
  rw [← hy9] at HZZ ⊢
  clear hy9
  refine (same_ref (W : Nat) (H : Nat) A n cap c (W : Nat) (H : Nat) A6 n cap6 c ha hb (by unfold In64; omega) (by unfold In64; omega) hn hmax hn6 hc6 _ HPP.out HQQ.out).mono ?_
  rintro e w12 ⟨rfl, hB12⟩
  rw [same_self c HM.out]
  have HB12 := Lib.hid (HBB.out.trans (hB12.mono HBB.out.size))
  have HX12 := Lib.hid (hp_below HXX.out hB12 (lt_heap HXX.out))
  have HP12 := Lib.hid (HPP.out.below hB12)
  have HV12 := Lib.hid (HVV.out.below hB12)
  have HZ12 := Lib.hid (hp_below HZZ.out hB12 (lt_heap HZZ.out))
  clear hB12 k0 k1 k2 y0 y1 y2
  have k0 := hp_cell (j := 0) HX12.out rfl
  have k1 := hp_cell (j := 1) HX12.out rfl
  have k2 := hp_cell (j := 2) HX12.out rfl
  have z0 := hp_cell (j := 0) HZ12.out rfl
  have z1 := hp_cell (j := 1) HZ12.out rfl
  have z2 := hp_cell (j := 2) HZ12.out rfl
  go_wp2_with fail
  refine (same_ref (W : Nat) (H : Nat) A n cap c (W : Nat) (H : Nat) A8 n cap8 c ha hb (by unfold In64; omega) (by unfold In64; omega) hn hmax hn8 hc8 _ HP12.out HV12.out).mono ?_
  rintro e w13 ⟨rfl, hB13⟩
  rw [same_self c HM.out]
  have HB13 := Lib.hid (HB12.out.trans (hB13.mono HB12.out.size))
  clear hB13 k0 k1 k2 z0 z1 z2
  go_wp2_with fail
  go_ret
  exact ⟨rfl, HB13.out⟩
end Go.Proofs.Ytkjlejkcedemlaa
