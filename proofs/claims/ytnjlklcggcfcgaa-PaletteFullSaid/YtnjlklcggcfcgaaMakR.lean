/- engraverref8.Make. -/
import Derived.Test.YtnjlklcggcfcgaaMake
namespace Go.Proofs.Ytnjlklcggcfcgaa
set_option linter.unusedVariables false
open Go.ChangeShapes Go.WideShapes Go.ChangeAt Go.RowKit

theorem uni_nodup' (l : List P4) : (uni l).Nodup := by
  have h : ∀ (l acc : List P4), acc.Nodup → (l.foldl addP acc).Nodup := by
    intro l
    induction l with
    | nil => intro acc ha; exact ha
    | cons x l ih =>
      intro acc ha
      rw [List.foldl_cons]
      refine ih _ ?_
      unfold addP
      split
      · exact ha
      · rename_i hx
        rw [List.nodup_append]
        refine ⟨ha, by simp, fun a h1 b h2 => ?_⟩
        simp at h2
        subst h2
        intro e
        subst e
        exact hx h1
  exact h l [] (by simp)
theorem clear_take {L : List P4} (hL : L.Nodup) {k : Nat} {q : P4} (hq : L[k]? = some q) : clearIx (L.take (k + 1)) = if q = (0, 0, 0, 0) then (k : Int) else clearIx (L.take k) := by
  have hk := (List.getElem?_eq_some_iff.1 hq).1
  have he := (List.getElem?_eq_some_iff.1 hq).2
  rw [List.take_succ_eq_append_getElem hk, he]
  by_cases hz : q = (0, 0, 0, 0)
  · rw [if_pos hz, clearIx_eq hz]
    · rw [List.length_take]; congr 1; omega
    · intro hm
      obtain ⟨j, hj, e⟩ := List.getElem_of_mem hm
      have hj2 : j < k := by rw [List.length_take] at hj; omega
      rw [List.getElem_take] at e
      have h2 := List.pairwise_iff_getElem.1 hL j k (by omega) hk hj2
      exact h2 (e.trans he.symm)
  · rw [if_neg hz, clearIx_ne hz]

set_option maxRecDepth 100000 in
set_option maxHeartbeats 2000000 in
theorem maker_yes (a b : Int) (bk off cap : Nat) (c : Nat → Nat) (hc : ∀ i, c i < 65536) (N : Nat) (ha : In64 a) (hb : In64 b) (hfit : fitsB a b (4 * N) c 2 = true) (hN1 : 1 ≤ N) (hN2 : N ≤ 16384) (hcap : 4 * N ≤ cap) (hmax : cap ≤ maxLen)
    (w : World) (hbk : bk < w.heap.size) (hcells : ∀ j, j < 4 * N → w.cell? ⟨bk, off + j, none⟩ = some (.int .u16 (c j : Nat))) :
    Calls Try.prog 11 #[.agg #[.int .i64 a, .int .i64 b, .slice (some ⟨bk, off, none⟩) (4 * N) cap]] w fun e w' => makeOk c N w e w' ∧ Below w.heap.size w w' := by
  obtain ⟨q0, q1, q2, q3⟩ := two_boxes w #[.int .i64 a, .int .i64 b, .slice (some ⟨bk, off, none⟩) (4 * N) cap] #[.slice none 0 0, .int .i64 0] 24 32
  obtain ⟨i5, hi5, hz50, hz51, hz52⟩ := info_parts info5
  have hP : Pix w (some ⟨bk, off, none⟩) (4 * N) c := fun _ => ⟨bk, off, rfl, hbk, hcells⟩
  have hm := fits_may hfit
  have hle : ((U c N).length : Int) ≤ 256 := by
    have h1 := hfit
    simp only [fitsB, Bool.and_eq_true, Bool.or_eq_true, decide_eq_true_eq] at h1
    obtain ⟨_, (h | h) | h⟩ := h1
    · exact absurd h (by decide)
    · exact absurd h.1 (by decide)
    · have h2 := h.2.1
      rw [Nat.mul_div_cancel_left _ (by omega), colB_U hc] at h2
      simpa using h2
  have HF := Lib.hid hfit
  have HM := Lib.hid hm
  have HC := Lib.hid hc
  have hPw := hP.below q3
  clear hfit hm hc hP hcells
  go_enter Try.func11, Try.ntmps11
  go_wp2_with fail
  refine (fits_ref a b _ (4 * N) cap c 2 HC.out ha hb (by unfold In64; omega) hcap hmax _ hPw).mono ?_
  rintro e w2 ⟨rfl, hB⟩
  rw [HF.out]
  have hPw2 := hPw.below hB
  rw [q0] at hB
  have r1 := hp_below q1 hB (by omega)
  have r2 := hp_below q2 hB (by omega)
  have HB := Lib.hid (q3.trans (hB.mono (by omega)))
  have hs2 := hB.size
  rw [q0] at hs2
  have k0 := hp_cell (j := 0) r1 rfl
  have k1 := hp_cell (j := 1) r1 rfl
  have k2 := hp_cell (j := 2) r1 rfl
  clear hB q0 q1 q2 q3 hPw
  obtain ⟨_, _, he, hbk2, hcl2⟩ := hPw2 (by omega)
  cases he
  have HCL := Lib.hid hcl2
  clear hcl2 hPw2
  go_wp2_with fail
  refine (list_ref a b bk off cap c HC.out N 256 ha hb HM.out hN1 hN2 hcap hmax _ hbk2 HCL.out).mono ?_
  rintro e w3 ⟨⟨_, v, u, rfl, rv, ru⟩ | ⟨hgt, rfl⟩, hB⟩
  case inr => exact absurd hle hgt
  obtain ⟨_, Av, cv, rfl, hcv1, hcv2, _⟩ := Sl.of_own rv
  obtain ⟨_, Au, cu, rfl, hcu1, hcu2, _⟩ := Sl.of_own ru
  have r2' := hp_below r2 hB (by omega)
  have hB3 := HB.out.trans (hB.mono HB.out.size)
  have hs3 := hB.size
  have HB3 := Lib.hid hB3
  have hnd := Lib.hid (uni_nodup' (ll c N))
  have hLN : (U c N).length ≤ 256 := by omega
  clear k0 k1 k2 r1 r2 hB hB3 HCL hle
  go_wp2_with fail
  have hrvw : ∀ W, Below w3.heap.size w3 W → Sl W (.slice Av (U c N).length cv) 4 (U c N).length (cellsP (U c N)) := fun W h => (Sl.of_own rv).below h
  have HRV := Lib.hid hrvw
  have HR := Lib.hid rv
  have HU := Lib.hid ru
  clear hrvw rv ru
  unfold maxLen at hcv2 hcu2
  obtain ⟨L, hL⟩ : ∃ L, L = U c N := ⟨_, rfl⟩
  have HLe := Lib.hid hL
  rw [show (U c N).length = L.length by rw [hL]] at *
  clear hL
  go_loopw [9] (fun x wr => ∃ k : Nat, k ≤ L.length ∧ x = .int .i64 k ∧ Below w3.heap.size w3 wr ∧ wr.heap[w3.heap.size]? = some (.cells #[.slice Av L.length cv, .int .i64 (clearIx (L.take k))] 32 (0, 0))) (fun x _ => L.length - (intOf x).toNat)
  case atStart => exact ⟨0, by omega, rfl, (Below.refl _ _).alloc (Nat.le_refl _) _, hp_new0 _ _⟩
  case round =>
    obtain ⟨k, hk, rfl, hB, hbx⟩ := hrel
    have b0 := hp_cell (j := 0) hbx rfl
    have b1 := hp_cell (j := 1) hbx rfl
    have bf : ∀ j, wr.frozen? ⟨w3.heap.size, j, none⟩ = false := fun j => by simp [World.frozen?, hbx]
    by_cases hlt : k < L.length
    · obtain ⟨q, hq⟩ : ∃ q, L[k]? = some q := ⟨L[k], List.getElem?_eq_getElem hlt⟩
      have hsl := HRV.out wr hB
      rw [← HLe.out] at hsl
      obtain ⟨gb, go, he, hgl, hgc⟩ := hsl.cell (by omega)
      subst he
      have hqc : ∀ j, j < 4 → wr.cell? ⟨gb, go + k * 4 + j, none⟩ = (cP q)[j]? := fun j hj => by
        rw [Nat.add_assoc, hgc (k * 4 + j) (by omega), cellsP_get L k q hq j hj]
      have c0 : wr.cell? ⟨gb, go + k * 4, none⟩ = some (.int .u16 (q.1 : Nat)) := hqc 0 (by omega)
      have c1 : wr.cell? ⟨gb, go + k * 4 + 1, none⟩ = some (.int .u16 (q.2.1 : Nat)) := hqc 1 (by omega)
      have c2 : wr.cell? ⟨gb, go + k * 4 + 2, none⟩ = some (.int .u16 (q.2.2.1 : Nat)) := hqc 2 (by omega)
      have c3 : wr.cell? ⟨gb, go + k * 4 + 3, none⟩ = some (.int .u16 (q.2.2.2 : Nat)) := hqc 3 (by omega)
      have hct := clear_take (L := L) (by rw [HLe.out]; exact hnd.out) hq
      have hE := fun W => run_eq_zero q W
      by_cases hz : q = (0, 0, 0, 0)
      · rw [show decide (q = (0, 0, 0, 0)) = true from by simp [hz]] at hE
        rw [if_pos hz] at hct
        have HCT := Lib.hid hct
        have hB4 := hB.setCell (p := ⟨w3.heap.size, 1, none⟩) (Nat.le_refl _) (.int .i64 (k : Nat))
        have hb4 := heap_set (i := 1) (x := .int .i64 (k : Nat)) hbx
        have HB4 := Lib.hid hB4
        have Hb4 := Lib.hid hb4
        clear hz hct hqc hgc hq hB4 hb4 hsl
        go_wp2_with fail
        go_roundw
        case rel => exact ⟨k + 1, by omega, by go_num, HB4.out, by rw [HCT.out]; exact Hb4.out⟩
        case measure => simp [intOf]; omega
      · rw [show decide (q = (0, 0, 0, 0)) = false from by simp [hz]] at hE
        rw [if_neg hz] at hct
        have HCT := Lib.hid hct
        clear hz hct hqc hgc hq hsl
        go_wp2_with fail
        go_roundw
        case rel => exact ⟨k + 1, by omega, by go_num, hB, by rw [HCT.out]; exact hbx⟩
        case measure => simp [intOf]; omega
    · obtain rfl : k = L.length := by omega
      rw [List.take_length] at hbx
      have hsw : w3.heap.size < wr.heap.size := lt_heap hbx
      have hsu := (Sl.of_own HU.out).below hB
      have HBw := Lib.hid hB
      have HBX := Lib.hid hbx
      clear hB hbx b0 b1 bf
      go_wp2_with fail
      rename World => wo
      go_loopw [10, 11] (fun b x wr => ∃ k : Nat, k ≤ N ∧ x = .int .i64 k ∧ wr.ownsRow wo.heap.size 5 1 b k (byteL ((pl c N).take k)) ∧ Below wo.heap.size wo wr) (fun _ x _ => N - (intOf x).toNat)
      case atStart => exact ⟨0, by omega, rfl, World.ownsRow_nil _ _ _ _, Below.refl _ _⟩
      case round =>
        obtain ⟨k, hk, rfl, hown, hB⟩ := hrel
        by_cases hlt : k < N
        · obtain ⟨q, hq⟩ : ∃ q, (pl c N)[k]? = some q := ⟨(pl c N)[k]'(by rw [pl_len]; exact hlt), List.getElem?_eq_getElem _⟩
          obtain ⟨gb, go, he, hgl, hgc⟩ := (hsu.below hB).cell (by omega)
          subst he
          have c0 : wr.cell? ⟨gb, go + k, none⟩ = some (.int .i64 (q : Nat)) := by rw [hgc k (by omega)]; simp [cellsI, hq]
          have hkb : ((q % 256 : Nat) : Int) = (q : Int) % 256 := by omega
          have htk : byteL ((pl c N).take (k + 1)) = byteL ((pl c N).take k) ++ [.int .u8 ((q : Int) % 256)] := by
            rw [List.take_add_one, hq, ← hkb]; simp [byteL]
          have hal := (Below.refl wr.heap.size wr).alloc (Nat.le_refl _) (.cells #[.int .u8 ((q : Int) % 256)] 5)
          have hwr := hB.size
          have HTK := Lib.hid htk
          clear htk hkb hgc hq
          go_wp2_with (at_builtin; refine wpList_append_own_at _ rfl _ _ 29 rfl wo.heap.size 5 i5 _ 1 1 Try.underlying29 hi5 hz50 hz51 hz52 rfl (by decide) _ _ _ rfl (hown.alloc _) ⟨wr.heap.size, 0, none⟩ 1 1 [.int .u8 ((q : Int) % 256)] rfl rfl ?c1 ?c2 ?c3 ?c4 ?c5 ?_)
          case c1 => exact fun j u h => one_new (w := wr) 0 h
          case c2 => intro u hu; simp at hu; subst hu; rfl
          case c3 => unfold maxLen; omega
          case c4 => omega
          case c5 => simp; omega
          intro u2 w4 hown' hgrow _ hat
          have hB4 := (hB.trans (hal.mono hwr)).grown hgrow (by simp; omega) (fun g hg => (hown.lt g hg).1)
          rw [← HTK.out] at hown'
          clear hgrow hat hal
          go_wp2_with fail
          go_roundw
          case rel => exact ⟨k + 1, by omega, by go_num, hown', hB4⟩
          case measure => simp [intOf]; omega
        · obtain rfl : k = N := by omega
          rw [List.take_of_length_le (by rw [pl_len]; omega)] at hown
          have hbx := hp_below HBX.out hB hsw
          have p0 := hp_cell (j := 0) hbx rfl
          have p1 := hp_cell (j := 1) hbx rfl
          have hBf := HB3.out.trans ((HBw.out.trans (hB.mono HBw.out.size)).mono HB3.out.size)
          have hrv2 := own_none (own_none HR.out HBw.out) (hB.mono (Nat.le_refl _))
          have r3 := hp_below (hp_below r2' HBw.out (by omega)) hB (by omega)
          have t0 := hp_cell (j := 0) r3 rfl
          have t1 := hp_cell (j := 1) r3 rfl
          have tf : ∀ j, wr.frozen? ⟨w.heap.size + 1, j, none⟩ = false := fun j => by simp [World.frozen?, r3]
          rw [HLe.out] at hrv2
          have HRV2 := Lib.hid hrv2
          have hws := HB3.out.size
          clear hbx hrv2
          go_wp2_with fail
          refine bodyPost_ret (v := .tuple #[.agg #[.slice Av L.length cv, .int .i64 (clearIx L)], u10, .bool true]) (by rw [results_c2t rfl]; go_simp) rfl ?_
          refine ⟨⟨.slice Av L.length cv, u10, by rw [HLe.out], ?_, ?_⟩, (hBf.setCell (p := ⟨w.heap.size + 1, 0, none⟩) (by simp) _).setCell (p := ⟨w.heap.size + 1, 1, none⟩) (by simp) _⟩
          · have h1 := HRV2.out.kept (grown_set wr (w.heap.size + 1) 0 (.slice Av L.length cv)) (own_apart HRV2.out (.inl (by omega)))
            have h2 := h1.kept (grown_set _ (w.heap.size + 1) 1 (.int .i64 (clearIx L))) (own_apart h1 (.inl (by omega)))
            rw [← HLe.out] at h2 ⊢
            exact own_le' (by omega) h2
          · have h1 := hown.kept (grown_set wr (w.heap.size + 1) 0 (.slice Av L.length cv)) (own_apart hown (.inl (by omega)))
            have h2 := h1.kept (grown_set _ (w.heap.size + 1) 1 (.int .i64 (clearIx L))) (own_apart h1 (.inl (by omega)))
            exact own_le' (by omega) h2

set_option maxRecDepth 100000 in
set_option maxHeartbeats 1000000 in
theorem maker_no (a b : Int) (A : Option Addr) (n cap : Nat) (c : Nat → Nat) (hc : ∀ i, c i < 65536) (ha : In64 a) (hb : In64 b) (hfit : fitsB a b n c 2 = false) (hn : n ≤ cap) (hmax : cap ≤ maxLen) (w : World) (hP : Pix w A n c) :
    Calls Try.prog 11 #[.agg #[.int .i64 a, .int .i64 b, .slice A n cap]] w fun e w' => e = .returned (.tuple #[.agg #[.slice none 0 0, .int .i64 0], .slice none 0 0, .bool false]) ∧ Below w.heap.size w w' := by
  obtain ⟨q0, q1, q2, q3⟩ := two_boxes w #[.int .i64 a, .int .i64 b, .slice A n cap] #[.slice none 0 0, .int .i64 0] 24 32
  have HF := Lib.hid hfit
  have HC := Lib.hid hc
  have hPw := hP.below q3
  clear hfit hc hP
  go_enter Try.func11, Try.ntmps11
  go_wp2_with fail
  refine (fits_ref a b A n cap c 2 HC.out ha hb (by unfold In64; omega) hn hmax _ hPw).mono ?_
  rintro e w2 ⟨rfl, hB⟩
  rw [HF.out]
  rw [q0] at hB
  have r2 := hp_below q2 hB (by omega)
  have t0 := hp_cell (j := 0) r2 rfl
  have t1 := hp_cell (j := 1) r2 rfl
  have tf : ∀ j, w2.frozen? ⟨w.heap.size + 1, j, none⟩ = false := fun j => by simp [World.frozen?, r2]
  have HB := Lib.hid (q3.trans (hB.mono (by omega)))
  clear hB q0 q1 q2 q3 r2 hPw
  go_wp2
  refine bodyPost_ret (v := .tuple #[.agg #[.slice none 0 0, .int .i64 0], .slice none 0 0, .bool false]) (by rw [results_c2t rfl]; go_simp) rfl ?_
  exact ⟨rfl, (HB.out.setCell (p := ⟨w.heap.size + 1, 0, none⟩) (by simp) _).setCell (p := ⟨w.heap.size + 1, 1, none⟩) (by simp) _⟩
end Go.Proofs.Ytnjlklcggcfcgaa
