/- What the reference's writer of bits has written. -/
import Derived.Test.YtioghgnngdcicaaPk
import Derived.BigRegion
namespace Go.Proofs.Ytioghgnngdcicaa
set_option linter.unusedVariables false
open Go.ChangeShapes Go.WideShapes Go.ChangeAt Go.RowKit

theorem cellsB_cells8 (o : List Nat) : cellsB o = cells8 o.length (fun i => (o[i]?).getD 0) := by
  unfold cellsB cells8
  refine List.ext_getElem (by simp) (fun i h1 h2 => ?_)
  simp at h1
  simp [h1]
set_option maxRecDepth 100000 in
set_option maxHeartbeats 400000 in
theorem out_pk (g : Nat) (l : List Nat) (hi : Bool) (ob : Option Nat) (hl : l.length ≤ 500000) (w : World) (h : Pk g l hi ob w) :
    Calls Try.prog 22 #[.pointer (some ⟨g, 0, none⟩)] w fun e w' => ∃ A' cap', e = .returned (.slice A' (pack hi l).1.length cap') ∧ NewB w.heap.size w' (pack hi l).1.length A' cap' (fun i => ((pack hi l).1[i]?).getD 0) ∧ Below w.heap.size w w' := by
  obtain ⟨i0, hi0, hz0, hz1, hz2⟩ := info_parts info8
  have hgl := h.g_lt
  obtain ⟨⟨vo, hb, hown, hob⟩, hne, hl2⟩ := h
  obtain ⟨_, Au, cu, rfl, hq1, hq2, hrow⟩ := Sl.of_own hown
  have c0 := hp_cell (j := 0) hb rfl
  have c1 := hp_cell (j := 1) hb rfl
  obtain ⟨N, hN⟩ : ∃ N, N = (l.length + 7) / 8 := ⟨_, rfl⟩
  have e1 : IntKind.i64.wrap ((l.length : Int) + 7) = (l.length : Int) + 7 := IntWalk.i64_in _ (by omega)
  have e2 : ((l.length : Int) + 7) / 8 = (N : Int) := by omega
  have hNl : N ≤ 100000 := by omega
  have HN := Lib.hid hN
  have HR := Lib.hid hrow
  have HOB := Lib.hid hob
  have HOWN := Lib.hid hown
  clear hN hrow hob hown
  obtain ⟨w2, hmk, hown2, hgrow2⟩ := run_makeSlice_full (P := Try.prog) (w := w) w.heap.size 22 5 i0 _ 1 Try.underlying22 hi0 hz0 hz1 .i64 .i64 N (by omega) (by rw [hz2]; omega) (by unfold maxLen; omega) (Nat.le_refl _)
  have hz9 : (madeCells (Value.int .u8 0).cells (N * 1)).toList = cellsB (outR hi l 0) := by
    rw [outR_zero, Nat.mul_one, show (Value.int .u8 0).cells = #[Value.int .u8 0] from rfl, toList_madeCells_one, ← HN.out]
    simp [cellsB]
  rw [hz9] at hown2
  have hb2 := (hgrow2.block g hgl (by simp)).trans hb
  have HO2 := Lib.hid hown2
  have HG := Lib.hid (Below.refl w.heap.size w |>.grown hgrow2 (Nat.le_refl _) (fun k e => by cases e))
  have HB2 := Lib.hid hb2
  clear hown2 hgrow2 hz9 hb2
  go_enter Try.func22, Try.ntmps22
  go_wp2_with fail
  clear e1 e2 hmk
  go_loopw [4] (fun c wr => ∃ i : Nat, i ≤ l.length ∧ c = .int .i64 i ∧ wr.ownsRow w.heap.size 5 1 (.slice (some ⟨w.heap.size, 0, none⟩) N N) N (cellsB (outR hi l i)) ∧ wr.heap[g]? = some (.cells #[.slice Au l.length cu, .bool hi] 46 (0, 0)) ∧ Below w.heap.size w wr) (fun c _ => l.length - (intOf c).toNat)
  case atStart => exact ⟨0, by omega, rfl, HO2.out, HB2.out, HG.out⟩
  case round =>
    obtain ⟨i, hil, rfl, hown, hbg, hBW⟩ := hrel
    have k0 := hp_cell (j := 0) hbg rfl
    have k1 := hp_cell (j := 1) hbg rfl
    by_cases hlt : i < l.length
    · have HX := Lib.hid (outR_step hi l i hlt)
      have hol : (outR hi l i).length = N := (outR_len hi l i hil).trans HN.out.symm
      have ho8 : ∀ v ∈ outR hi l i, v < 256 := by
        intro v hv
        rcases List.mem_append.1 hv with h | h
        · exact pack_lt hi l hl2 i hil v h
        · have := (List.mem_replicate.1 h).2
          omega
      obtain ⟨hl0, hf⟩ := hown
      rcases hf with ⟨h9, _⟩ | ⟨gb, cap, cur, he, _, hbo, hnc, hcm, hcs, ht⟩
      · cases h9
      cases he
      obtain ⟨bk, off, rfl, hbk, hcl⟩ := HR.out (by omega)
      have hle := hcl i (by omega)
      have hli : (cellsI l)[i]? = some (.int .i64 ((l[i] : Nat) : Int)) := by simp [cellsI, hlt]
      rw [hli] at hle
      have hle' := (hBW.cell (p := ⟨bk, off + i, none⟩) hbk).trans hle
      obtain ⟨y, hy⟩ : ∃ y, y = l[i] := ⟨_, rfl⟩
      have hy2 : y < 2 := by rw [hy]; exact hl2 _ (List.getElem_mem _)
      rw [← hy] at hle' HX
      clear hy hle hli hcl
      obtain ⟨p, hp⟩ : ∃ p, p = i / 8 := ⟨_, rfl⟩
      have hpN : p < N := by have := HN.out; omega
      have hip : ((i / 8 : Nat) : Int) = (p : Int) := by omega
      have hpI : (i : Int) / 8 = (p : Int) := by omega
      rw [← hp] at HX
      have hzc : cur[p]? = some (.int .u8 (((outR hi l i)[p]'(by omega) : Nat) : Int)) := by
        have h1 := congrArg (fun l => l[p]?) ht
        simp only [List.getElem?_take, show p < N * 1 by omega, if_true] at h1
        rw [← Array.getElem?_toList, h1]
        simp [cellsB, hol, hpN]
      rw [List.getElem?_eq_getElem (show p < (outR hi l i).length by omega), Option.getD_some] at HX
      obtain ⟨z, hz⟩ : ∃ z, z = (outR hi l i)[p]'(by omega) := ⟨_, rfl⟩
      have hz8 : z < 256 := by rw [hz]; exact ho8 _ (List.getElem_mem _)
      rw [← hz] at hzc HX
      have ce := hp_cell hbo hzc
      have ff := fun j => hp_froz hbo j
      have e2 : IntKind.u8.wrap (y : Int) = (y : Int) := by rw [IntKind.wrap_u8']; omega
      have hr8 := run_rem8 i (by omega)
      have hq8 := run_quo8 i (by omega)
      rw [← hp] at hq8
      have tm : ((i : Nat) : Int).tmod 8 = ((i % 8 : Nat) : Int) := (Int.tmod_eq_emod_of_nonneg (by omega)).trans (by omega)
      clear hz hp ho8 hzc
      cases hi with
      | true =>
        have hq : ∃ q, q = 7 - i % 8 := ⟨_, rfl⟩
        obtain ⟨q, hq⟩ := hq
        have hq8 : q < 8 := by omega
        have hqI : (7 : Int) - (i : Int) % 8 = (q : Int) := by omega
        have hpos : posB true (7 - i % 8) = q := by unfold posB; rw [if_pos rfl]; omega
        rw [hpos] at HX
        have hyt : y * 2 ^ q < 256 := by
          have h1 : 2 ^ q ≤ 2 ^ 7 := Nat.pow_le_pow_right (by omega) (by omega)
          have h2 : y * 2 ^ q ≤ 1 * 2 ^ q := Nat.mul_le_mul_right _ (by omega)
          omega
        have e3 : IntKind.u8.wrap ((y : Int) * 2 ^ q) = ((y * 2 ^ q : Nat) : Int) := by
          rw [show (y : Int) * 2 ^ q = ((y * 2 ^ q : Nat) : Int) by simp, IntKind.wrap_u8']
          omega
        have e4 : bits BinOp.or IntKind.u8 (z : Int) ((y * 2 ^ q : Nat) : Int) = ((z ||| y * 2 ^ q : Nat) : Int) := u8_or_nat z (y * 2 ^ q) hz8 hyt
        obtain ⟨r, hr⟩ : ∃ r, r = y * 2 ^ q := ⟨_, rfl⟩
        rw [← hr] at e3 e4 HX hyt
        clear hr hpos hq
        have hst := heap_set (i := p) (x := .int .u8 ((z ||| r : Nat) : Int)) (W := wr.drew) hbo
        have hbn := hp_oth (i := p) (v := .int .u8 ((z ||| r : Nat) : Int)) (W := wr.drew) (g := w.heap.size) hbg (by omega)
        have hbw := (hBW.drew).setCell (p := ⟨w.heap.size, p, none⟩) (Nat.le_refl _) (.int .u8 ((z ||| r : Nat) : Int))
        have hrow2 : ∀ W : World, W.heap[w.heap.size]? = some (.cells (cur.setIfInBounds p (.int .u8 ((z ||| r : Nat) : Int))) 5 (0, 0)) → W.ownsRow w.heap.size 5 1 (.slice (some ⟨w.heap.size, 0, none⟩) N N) N (cellsB (outR true l (i + 1))) := fun W hW2 => by
          rw [HX.out]
          refine ⟨by rw [cellsB_len, List.length_set, hol]; omega, .inr ⟨w.heap.size, N, _, rfl, Nat.le_refl _, hW2, Nat.le_refl _, hcm, by simpa using hcs, ?_⟩⟩
          rw [Array.toList_setIfInBounds, List.take_set, ht]
          unfold cellsB
          rw [List.map_set]
        have H1 := Lib.hid hst
        have H2 := Lib.hid hbn
        have H3 := Lib.hid hbw
        have H4 := Lib.hid hrow2
        clear hst hbn hbw hrow2 hbo hbg hBW ht
        have wp : IntKind.i64.wrap (p : Int) = (p : Int) := IntWalk.i64_in _ (by omega)
        have b1 : (p : Int) < (N : Int) := by omega
        have b2 : (i : Int) < (l.length : Int) := by omega
        go_wp2_with fail
        go_still_tail 20, (by kernel_rfl)
        change wpList _ _ _ _ _ wr.drew
        go_wp2_with fail
        go_roundw
        case rel => exact ⟨i + 1, hlt, by go_num, H4.out _ H1.out, H2.out, H3.out⟩
        case measure => simp [intOf]; omega
      | false =>
        have hq : ∃ q, q = i % 8 := ⟨_, rfl⟩
        obtain ⟨q, hq⟩ := hq
        have hq8 : q < 8 := by omega
        have hqI : (i : Int) % 8 = (q : Int) := by omega
        have hpos : posB false (7 - i % 8) = q := by unfold posB; rw [if_neg (by decide)]; omega
        rw [hpos] at HX
        have hyt : y * 2 ^ q < 256 := by
          have h1 : 2 ^ q ≤ 2 ^ 7 := Nat.pow_le_pow_right (by omega) (by omega)
          have h2 : y * 2 ^ q ≤ 1 * 2 ^ q := Nat.mul_le_mul_right _ (by omega)
          omega
        have e3 : IntKind.u8.wrap ((y : Int) * 2 ^ q) = ((y * 2 ^ q : Nat) : Int) := by
          rw [show (y : Int) * 2 ^ q = ((y * 2 ^ q : Nat) : Int) by simp, IntKind.wrap_u8']
          omega
        have e4 : bits BinOp.or IntKind.u8 (z : Int) ((y * 2 ^ q : Nat) : Int) = ((z ||| y * 2 ^ q : Nat) : Int) := u8_or_nat z (y * 2 ^ q) hz8 hyt
        obtain ⟨r, hr⟩ : ∃ r, r = y * 2 ^ q := ⟨_, rfl⟩
        rw [← hr] at e3 e4 HX hyt
        clear hr hpos hq
        have hst := heap_set (i := p) (x := .int .u8 ((z ||| r : Nat) : Int)) (W := wr.drew) hbo
        have hbn := hp_oth (i := p) (v := .int .u8 ((z ||| r : Nat) : Int)) (W := wr.drew) (g := w.heap.size) hbg (by omega)
        have hbw := (hBW.drew).setCell (p := ⟨w.heap.size, p, none⟩) (Nat.le_refl _) (.int .u8 ((z ||| r : Nat) : Int))
        have hrow2 : ∀ W : World, W.heap[w.heap.size]? = some (.cells (cur.setIfInBounds p (.int .u8 ((z ||| r : Nat) : Int))) 5 (0, 0)) → W.ownsRow w.heap.size 5 1 (.slice (some ⟨w.heap.size, 0, none⟩) N N) N (cellsB (outR false l (i + 1))) := fun W hW2 => by
          rw [HX.out]
          refine ⟨by rw [cellsB_len, List.length_set, hol]; omega, .inr ⟨w.heap.size, N, _, rfl, Nat.le_refl _, hW2, Nat.le_refl _, hcm, by simpa using hcs, ?_⟩⟩
          rw [Array.toList_setIfInBounds, List.take_set, ht]
          unfold cellsB
          rw [List.map_set]
        have H1 := Lib.hid hst
        have H2 := Lib.hid hbn
        have H3 := Lib.hid hbw
        have H4 := Lib.hid hrow2
        clear hst hbn hbw hrow2 hbo hbg hBW ht
        have wp : IntKind.i64.wrap (p : Int) = (p : Int) := IntWalk.i64_in _ (by omega)
        have b1 : (p : Int) < (N : Int) := by omega
        have b2 : (i : Int) < (l.length : Int) := by omega
        go_wp2_with fail
        go_still_tail 20, (by kernel_rfl)
        change wpList _ _ _ _ _ wr.drew
        go_wp2_with fail
        go_roundw
        case rel => exact ⟨i + 1, hlt, by go_num, H4.out _ H1.out, H2.out, H3.out⟩
        case measure => simp [intOf]; omega
    · obtain rfl : l.length = i := by omega
      rw [outR_all] at hown
      have hlp := pack_len hi l
      rw [← HN.out] at hlp
      rw [cellsB_cells8, hlp] at hown
      obtain ⟨A', cap', he, hN⟩ := NewB.of_own hown
      rw [← hlp] at hN
      have HF := Lib.hid hN
      have HV := Lib.hid he
      have HL := Lib.hid hlp
      clear hN he hlp hown
      go_wp2_with fail
      go_ret
      exact ⟨A', cap', by rw [HL.out, HV.out]; rfl, HF.out, hBW⟩
end Go.Proofs.Ytioghgnngdcicaa
