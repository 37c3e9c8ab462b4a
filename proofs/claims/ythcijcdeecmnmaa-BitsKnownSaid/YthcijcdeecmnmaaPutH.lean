/- Bits written from the highest of each byte on; what was written. -/
import Derived.Test.YthcijcdeecmnmaaPut
namespace Go.Proofs.Ythcijcdeecmnmaa
set_option linter.unusedVariables false
open Go.ChangeShapes Go.WideShapes Go.ChangeAt Go.RowKit

/-- The bytes behind k bits. -/
def stepH (x : Int) (i : Nat) (o : List Nat) (fr : Nat) : List Nat := orLast (roomO o fr) (bitX x i * 2 ^ roomF fr)
def putsH (x : Int) (n : Nat) (o : List Nat) (fr : Nat) : Nat → List Nat × Nat
  | 0 => (o, fr)
  | k + 1 => (stepH x (n - 1 - k) (putsH x n o fr k).1 (putsH x n o fr k).2, roomF (putsH x n o fr k).2)
theorem puth_len (x : Int) (n : Nat) (o : List Nat) (fr : Nat) (k : Nat) : (putsH x n o fr k).1.length ≤ o.length + k := by
  induction k with
  | zero => simp [putsH]
  | succ k ih =>
    have h := roomO_len (putsH x n o fr k).1 (putsH x n o fr k).2
    simp only [putsH, stepH, orLast, List.length_set]
    omega
set_option maxRecDepth 100000 in
set_option maxHeartbeats 400000 in
theorem putH (g : Nat) (iv : Value) (at_ : Int) (o : List Nat) (fr : Nat) (ob : Option Nat) (ho : o.length ≤ 500000) (x : Int) (hx : In64 x) (n : Nat) (hn : n ≤ 24) (w : World) (h : Wr 56 g iv at_ o fr ob w) :
    Calls Try.prog 34 #[.pointer (some ⟨g, 0, none⟩), .int .i64 x, .int .i64 (n : Nat)] w fun e w' => e = .returned (.tuple #[]) ∧ Chg (Near g ob) w w' ∧ ∃ ob', Wr 56 g iv at_ (putsH x n o fr n).1 (putsH x n o fr n).2 ob' w' ∧ Next ob ob' w := by
  have d1 : decide ((n : Int) < 0) = false := decide_eq_false (by omega)
  have d2 : decide (24 < n) = false := decide_eq_false (by omega)
  go_enter Try.func34, Try.ntmps34
  go_wp2_with fail
  go_loopw [17] (fun c wr => ∃ (k : Nat) (ob' : Option Nat), k ≤ n ∧ c = .int .i64 k ∧ Chg (Near g ob) w wr ∧ Next ob ob' w ∧ Wr 56 g iv at_ (putsH x n o fr k).1 (putsH x n o fr k).2 ob' wr) (fun c _ => n - (intOf c).toNat)
  case atStart => exact ⟨0, ob, by omega, rfl, Chg.refl _ _, .inl rfl, h⟩
  case round =>
    obtain ⟨k, ob1, hk, rfl, hCh, hNx, hW⟩ := hrel
    have hpl := puth_len x n o fr k
    have hnx : (putsH x n o fr (k + 1)) = (stepH x (n - 1 - k) (putsH x n o fr k).1 (putsH x n o fr k).2, roomF (putsH x n o fr k).2) := rfl
    have HX := Lib.hid hnx
    clear hnx
    by_cases hlt : k < n
    · generalize putsH x n o fr k = s at *
      obtain ⟨o1, f1⟩ := s
      simp only at hW hpl HX
      go_wp2_with fail
      refine (room_row _ g iv at_ o1 f1 ob1 (by omega) _ hW).mono ?_
      rintro e w2 ⟨rfl, hC, ob2, ⟨⟨vo, hb, hown, hob⟩, h8, hfu, hl256⟩, hnext⟩
      have hr8 : roomF f1 < 8 := h8
      have hro : 0 < (roomO o1 f1).length := by
        unfold roomO
        split
        · simp
        · rename_i hf
          have := hW.full (by omega)
          omega
      have hrl := roomO_len o1 f1
      obtain ⟨p, hp⟩ : ∃ p, p = roomF f1 := ⟨_, rfl⟩
      obtain ⟨q, hq⟩ : ∃ q, q = roomO o1 f1 := ⟨_, rfl⟩
      rw [← hp] at hb hr8 ⊢
      rw [← hq] at hown hro hrl hl256
      have HPe := Lib.hid hp
      have HQe := Lib.hid hq
      clear hp hq h8 hfu
      obtain ⟨hlen, hf⟩ := hown
      rcases hf with ⟨rfl, h0⟩ | ⟨gb, cap, cur, rfl, hgb, hg, hnc, hcm, hcs, ht⟩
      · omega
      obtain ⟨m, hm⟩ : ∃ m, q.length = m + 1 := ⟨q.length - 1, by omega⟩
      have hlast : cur[m]? = some (.int .u8 ((q[m]'(by omega) : Nat) : Int)) := by
        have h1 := congrArg (fun l => l[m]?) ht
        simp only [List.getElem?_take, show m < q.length * 1 by omega, if_true] at h1
        rw [← Array.getElem?_toList, h1]
        simp [cellsB, show m < q.length by omega]
      obtain ⟨M, hM⟩ : ∃ M, M = q.length := ⟨_, rfl⟩
      have c1 : w2.cell? ⟨g, 1, none⟩ = some (.slice (some ⟨gb, 0, none⟩) M cap) := by rw [hM]; exact hp_cell (j := 1) hb rfl
      have a1 : (M : Int) - 1 = (m : Int) := by omega
      have a2 : (m : Int) < (M : Int) := by omega
      have a3 : m < M := by omega
      have a4 : IntKind.i64.wrap ((M : Int) - 1) = (m : Int) := (IntWalk.i64_in _ (by omega)).trans a1
      have HM := Lib.hid hM
      clear hM
      have ce := hp_cell hg hlast
      obtain ⟨z, hz⟩ : ∃ z, z = q[m]'(by omega) := ⟨_, rfl⟩
      rw [← hz] at ce
      have hz8 : z < 256 := by rw [hz]; exact hl256 _ (List.getElem_mem _)
      have ff := fun j => hp_froz hg j
      have b4 : IntKind.i64.wrap (m : Int) = (m : Int) := IntWalk.i64_in _ (by omega)
      have b5 : (7 : Int) - (p : Int) = ((7 - p : Nat) : Int) := by omega
      have b6 : IntKind.i64.wrap (7 - (p : Int)) = ((7 - p : Nat) : Int) := (IntWalk.i64_in _ (by omega)).trans b5
      have n1 : IntKind.i64.wrap ((n : Int) - 1) = (n : Int) - 1 := IntWalk.i64_in _ (by omega)
      have n2 : (n : Int) - 1 - (k : Int) = ((n - 1 - k : Nat) : Int) := by omega
      have n3 : IntKind.i64.wrap ((n : Int) - 1 - (k : Int)) = ((n - 1 - k : Nat) : Int) := (IntWalk.i64_in _ (by omega)).trans n2
      have n4 : IntKind.i64.wrap (((n - 1 - k : Nat) : Int)) = ((n - 1 - k : Nat) : Int) := IntWalk.i64_in _ (by omega)
      have b7 : IntKind.i64.wrap ((7 - p : Nat) : Int) = ((7 - p : Nat) : Int) := IntWalk.i64_in _ (by omega)
      obtain ⟨t, ht7⟩ : ∃ t, t = p := ⟨_, rfl⟩
      have ht8 : t < 8 := by omega
      obtain ⟨y, hy⟩ : ∃ y, y = bitX x (n - 1 - k) := ⟨_, rfl⟩
      have hy2 : y < 2 := by rw [hy]; exact bitX_lt x _
      have e1 : bits BinOp.and IntKind.i64 (x / 2 ^ (n - 1 - k)) 1 = (y : Int) := by rw [i64_and1, hy]; unfold bitX; omega
      have e2 : IntKind.u8.wrap (y : Int) = (y : Int) := by rw [IntKind.wrap_u8']; omega
      have hyt : y * 2 ^ t < 256 := by
        have h1 : 2 ^ t ≤ 2 ^ 7 := Nat.pow_le_pow_right (by omega) (by omega)
        have h2 : y * 2 ^ t ≤ 1 * 2 ^ t := Nat.mul_le_mul_right _ (by omega)
        omega
      have e3 : IntKind.u8.wrap ((y : Int) * 2 ^ t) = ((y * 2 ^ t : Nat) : Int) := by
        rw [show (y : Int) * 2 ^ t = ((y * 2 ^ t : Nat) : Int) by simp, IntKind.wrap_u8']
        omega
      have e4 : bits BinOp.or IntKind.u8 (z : Int) ((y * 2 ^ t : Nat) : Int) = ((z ||| y * 2 ^ t : Nat) : Int) := u8_or_nat z (y * 2 ^ t) hz8 hyt
      obtain ⟨r, hr⟩ : ∃ r, r = y * 2 ^ t := ⟨_, rfl⟩
      rw [← hr] at e3 e4
      have HZ := Lib.hid hz
      have HY := Lib.hid hy
      subst ht7
      have HR := Lib.hid hr
      clear hz hy hr hyt
      go_wp2_with fail
      go_still_tail 26, (by kernel_rfl)
      have hgg : ¬g = gb := by omega
      have hNx2 := hNx.trans hnext hCh.size
      have hob2 : some gb = ob2 := hob
      have hC2 := hCh.trans2 hC (hNx.near)
      have hC3 : Chg (Near g ob) w (w2.drew.setCell ⟨gb, m, none⟩ (.int .u8 ((z ||| r : Nat) : Int))) := hC2.trans2 (((Chg.refl [gb] w2).drew).set (.inl (by simp)) _ _) (fun v9 hv9 => by simp at hv9; rw [hv9]; exact hNx2.near (g := g) gb (by rw [← hob2]; simp [Near]))
      have HC3 := Lib.hid hC3
      have HNX := Lib.hid hNx2
      clear hC3 hC2 hC
      have hb' : w2.drew.heap[g]? = _ := hb
      have hg' : w2.drew.heap[gb]? = _ := hg
      have hbn := hp_oth (i := m) (v := .int .u8 ((z ||| r : Nat) : Int)) hb' hgg
      have hgn := heap_set (i := m) (x := .int .u8 ((z ||| r : Nat) : Int)) hg'
      have hst : stepH x (n - 1 - k) o1 f1 = q.set m (z ||| r) := by
        unfold stepH orLast
        rw [← HQe.out, ← HPe.out, ← HY.out, ← HR.out, show q.length - 1 = m by omega, List.getElem?_eq_getElem (by omega), ← HZ.out]
        rfl
      have htk : List.take (q.length * 1) (cur.setIfInBounds m (.int .u8 ((z ||| r : Nat) : Int))).toList = cellsB (q.set m (z ||| r)) := by
        rw [Array.toList_setIfInBounds, List.take_set, ht]
        unfold cellsB
        rw [List.map_set]
      have hrow : ∀ W : World, W.heap[gb]? = some (.cells (cur.setIfInBounds m (.int .u8 ((z ||| r : Nat) : Int))) 5 (0, 0)) → W.ownsRow (g + 1) 5 1 (.slice (some ⟨gb, 0, none⟩) q.length cap) (q.set m (z ||| r)).length (cellsB (q.set m (z ||| r))) := fun W hW2 => by
        rw [List.length_set]
        exact ⟨by rw [cellsB_len, List.length_set]; omega, .inr ⟨gb, cap, _, rfl, hgb, hW2, hnc, hcm, by simpa using hcs, htk⟩⟩
      have HRW := Lib.hid hrow
      have HBN := Lib.hid hbn
      have HGN := Lib.hid hgn
      have HST := Lib.hid hst
      have HL := Lib.hid hl256
      have hfg : w2.drew.frozen? ⟨gb, m, none⟩ = false := ff m
      clear hb' hg' hrow hbn hgn hst htk
      change wpList _ _ _ _ _ w2.drew
      go_wp2_with fail
      go_roundw
      case rel =>
        refine ⟨k + 1, ob2, hlt, by go_num, HC3.out, HNX.out, ?_⟩
        rw [HX.out]
        simp only
        rw [HST.out, ← HPe.out]
        refine ⟨⟨.slice (some ⟨gb, 0, none⟩) q.length cap, HBN.out, HRW.out _ HGN.out, hob⟩, hr8, fun _ => by rw [List.length_set]; exact hro, fun v hv => ?_⟩
        rcases List.mem_or_eq_of_mem_set hv with h | rfl
        · exact HL.out v h
        · exact Nat.or_lt_two_pow (n := 8) hz8 (by rw [HR.out]; have h1 : 2 ^ t ≤ 2 ^ 7 := Nat.pow_le_pow_right (by omega) (by omega); have h2 : y * 2 ^ t ≤ 1 * 2 ^ t := Nat.mul_le_mul_right _ (by omega); omega)
      case measure => simp [intOf]; omega
    · obtain rfl : n = k := by omega
      go_wp2_with fail
      go_end0
      exact ⟨rfl, hCh, ob1, hW, hNx⟩
end Go.Proofs.Ythcijcdeecmnmaa
