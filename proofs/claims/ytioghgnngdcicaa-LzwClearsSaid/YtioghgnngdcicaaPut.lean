/- Bits written. -/
import Derived.Test.YtioghgnngdcicaaLowB
namespace Go.Proofs.Ytioghgnngdcicaa
set_option linter.unusedVariables false
open Go.ChangeShapes Go.WideShapes Go.ChangeAt Go.RowKit

def cellsB (o : List Nat) : List Value := o.map fun k => .int .u8 ((k : Nat) : Int)
theorem cellsB_len (o : List Nat) : (cellsB o).length = o.length := by simp [cellsB]
/-- What a writer holds: its bytes, how many bits of the last are free; ob: its row's block. -/
structure Wr (T : TypeId) (g : Nat) (iv : Value) (at_ : Int) (o : List Nat) (fr : Nat) (ob : Option Nat) (W : World) : Prop where
  row : ∃ vo, W.heap[g]? = some (.cells #[iv, vo, .int .i64 at_, .int .i64 (fr : Nat)] T (0, 0)) ∧ W.ownsRow (g + 1) 5 1 vo o.length (cellsB o) ∧ vo.ownBlock = ob
  fr8 : fr < 8
  full : 0 < fr → 0 < o.length
  lt : ∀ x ∈ o, x < 256
def Near (g : Nat) (ob : Option Nat) : List Nat := g :: ob.toList
def Next (ob ob' : Option Nat) (w : World) : Prop := ob' = ob ∨ ∃ k, ob' = some k ∧ w.heap.size ≤ k
theorem near_grown {g : Nat} {ob : Option Nat} {w w' : World} (h : w.grownBy w' ob) : Chg (Near g ob) w w' := Chg.grown h (fun r e => by subst e; simp [Near])
theorem near_set {g : Nat} {ob : Option Nat} (w : World) (i : Nat) (v : Value) : Chg (Near g ob) w (w.setCell ⟨g, i, none⟩ v) := (Chg.refl _ w).set (.inl (by simp [Near])) i v
def roomO (o : List Nat) (fr : Nat) : List Nat := if fr = 0 then o ++ [0] else o
def roomF (fr : Nat) : Nat := if fr = 0 then 7 else fr - 1
theorem cellsB_snoc (o : List Nat) (x : Nat) : cellsB (o ++ [x]) = cellsB o ++ [.int .u8 ((x : Nat) : Int)] := by simp [cellsB]
theorem grown_set (w : World) (b i : Nat) (v : Value) : w.grownBy (w.setCell ⟨b, i, none⟩ v) (some b) :=
  ⟨rfl, rfl, rfl, by simp [World.setCell], fun k _ hk => Below.heap_setCell w _ v k (fun e => hk (by rw [e]))⟩
theorem own_apart' {w : World} {base : Nat} {e : TypeId} {size k : Nat} {x : Value} {xs : List Value} (h : w.ownsRow base e size x k xs) {r : Nat} (hr : r < base) : x.ownBlock = none ∨ x.ownBlock ≠ some r := by
  cases hx : x.ownBlock with
  | none => exact .inl rfl
  | some g =>
    refine .inr fun e => ?_
    injection e with e
    have := (h.lt g hx).1
    omega
set_option maxRecDepth 100000 in
set_option maxHeartbeats 400000 in
theorem room_row (T : TypeId) (g : Nat) (iv : Value) (at_ : Int) (o : List Nat) (fr : Nat) (ob : Option Nat) (ho : o.length ≤ 1000000) (w : World) (h : Wr T g iv at_ o fr ob w) :
    Calls Try.prog 49 #[.pointer (some ⟨g, 0, none⟩)] w fun e w' => e = .returned (.int .i64 ((roomF fr : Nat) : Int)) ∧ Chg (Near g ob) w w' ∧ ∃ ob', Wr T g iv at_ (roomO o fr) (roomF fr) ob' w' ∧ Next ob ob' w := by
  obtain ⟨i0, hi, hz0, hz1, hz2⟩ := info_parts info8
  obtain ⟨⟨vo, hb, hown, hob⟩, h8, hfu, hlt⟩ := h
  have c1 := hp_cell (j := 1) hb rfl
  have c3 := hp_cell (j := 3) hb rfl
  have ff := fun j => hp_froz hb j
  have hgl := lt_heap hb
  by_cases hf : fr = 0
  · subst hf
    go_enter Try.func49, Try.ntmps49
    have hb2 := hp_alloc (.cells #[.int .u8 0] 5) hb
    go_wp2_with (at_builtin; refine wpList_append_own_at _ rfl _ _ 22 rfl (g + 1) 5 i0 _ 1 1 Try.underlying22 hi hz0 hz1 hz2 rfl (by decide) _ _ _ rfl (hown.alloc _) ⟨w.heap.size, 0, none⟩ 1 1 [.int .u8 0] rfl rfl ?c1 ?c2 ?c3 ?c4 ?c5 ?_)
    case c1 => intro j u hj; cases j with | zero => simp at hj; subst hj; exact hp_cell (j := 0) (hp_new0 w _) rfl | succ j => simp at hj
    case c2 => intro u hu; simp at hu; subst hu; rfl
    case c3 => unfold maxLen; omega
    case c4 => omega
    case c5 => simp; omega
    intro u2 w4 hown' hgrow _ hat
    obtain ⟨_, Au, cu, rfl, hq1, hq2, _⟩ := Sl.of_own hown'
    have hb4 := (hgrow.block g (lt_heap hb2) (fun e => by have := (hown.lt _ (hob.trans e.symm)).1; omega)).trans hb2
    have hC4 : Chg (Near g ob) w w4 := ((Chg.refl _ w).alloc _).trans (near_grown hgrow)
    have hs1 := heap_set (i := 1) (x := (.slice Au (o.length + 1) cu)) hb4
    have hs2 := heap_set (i := 3) (x := .int .i64 8) hs1
    have hs3 := heap_set (i := 3) (x := .int .i64 7) hs2
    have hk1 := hown'.kept (grown_set w4 g 1 (.slice Au (o.length + 1) cu)) (own_apart' hown' (by omega))
    have hk2 := hk1.kept (grown_set _ g 3 (.int .i64 8)) (own_apart' hk1 (by omega))
    have hk3 := hk2.kept (grown_set _ g 3 (.int .i64 7)) (own_apart' hk2 (by omega))
    have e7 : (((w4.setCell ⟨g, 1, none⟩ (.slice Au (o.length + 1) cu)).setCell ⟨g, 3, none⟩ (.int .i64 8)).setCell ⟨g, 3, none⟩ (.int .i64 7)).cell? ⟨g, 3, none⟩ = some (.int .i64 7) := hp_cell (j := 3) hs3 rfl
    have HS := Lib.hid hs3
    have HK := Lib.hid hk3
    have HC := Lib.hid (((hC4.trans (near_set w4 1 (.slice Au (o.length + 1) cu))).trans (near_set _ 3 (.int .i64 8))).trans (near_set _ 3 (.int .i64 7)))
    have d1 := hp_cell (j := 1) hb4 rfl
    have d3 := hp_cell (j := 3) hb4 rfl
    have df := fun j => hp_froz hb4 j
    have HN : Hid (Next ob (Value.ownBlock (.slice Au (o.length + 1) cu)) w) := Lib.hid (by
      rcases hat with h | h
      · exact .inl h
      · exact .inr ⟨_, h, by simp⟩)
    clear hb hown hb2 hown' hgrow hat hb4 hC4 hs1 hs2 hs3 hk1 hk2 hk3 c1 c3 ff
    go_wp2
    go_ret
    refine ⟨rfl, HC.out, _, ⟨⟨(.slice Au (o.length + 1) cu), HS.out, ?_, rfl⟩, by simp [roomF], (fun _ => by simp [roomO]), fun x hx => by simp [roomO] at hx; rcases hx with hx | hx; exact hlt x hx; omega⟩, HN.out⟩
    simp only [roomO, if_true, cellsB_snoc, List.length_append, List.length_singleton]
    exact HK.out
  · have hf2 : 1 ≤ fr := by omega
    have hne : ((fr : Int) == 0) = false := by rw [beq_eq_false_iff_ne]; omega
    have hv : (fr : Int) - 1 = ((fr - 1 : Nat) : Int) := by omega
    have hs := heap_set (i := 3) (x := .int .i64 ((fr - 1 : Nat) : Int)) hb
    have hk := hown.kept (grown_set w g 3 (.int .i64 ((fr - 1 : Nat) : Int))) (own_apart' hown (by omega))
    have HS := Lib.hid hs
    have HK := Lib.hid hk
    clear hb hown hs hk
    go_enter Try.func49, Try.ntmps49
    go_wp2
    go_ret
    refine ⟨?_, near_set w 3 _, ob, ⟨⟨vo, ?_, ?_, hob⟩, by unfold roomF; split <;> omega, fun _ => ?_, fun x hx => by rw [show roomO o fr = o by unfold roomO; rw [if_neg hf]] at hx; exact hlt x hx⟩, .inl rfl⟩
    · rw [show roomF fr = fr - 1 by unfold roomF; rw [if_neg hf]]
      rfl
    · rw [show roomF fr = fr - 1 by unfold roomF; rw [if_neg hf]]
      exact HS.out
    · rw [show roomO o fr = o by unfold roomO; rw [if_neg hf]]
      exact HK.out
    · rw [show roomO o fr = o by unfold roomO; rw [if_neg hf]]
      exact hfu (by omega)
/-- v laid over the last byte. -/
def orLast (o : List Nat) (v : Nat) : List Nat := o.set (o.length - 1) ((o[o.length - 1]?).getD 0 ||| v)
def bitX (x : Int) (i : Nat) : Nat := ((x / 2 ^ i) % 2).toNat
theorem bitX_lt (x : Int) (i : Nat) : bitX x i < 2 := by unfold bitX; omega
theorem Chg.trans2 {S T : List Nat} {w w' w'' : World} (h : Chg S w w') (k : Chg T w' w'') (hT : ∀ x ∈ T, x ∈ S ∨ w.heap.size ≤ x) : Chg S w w'' :=
  ⟨k.os.trans h.os, k.tape.trans h.tape, k.output.trans h.output, Nat.le_trans h.size k.size, fun i hi hs => (k.block i (Nat.lt_of_lt_of_le hi h.size) (fun hm => by rcases hT i hm with h1 | h1; exact hs h1; omega)).trans (h.block i hi hs)⟩
theorem Next.near {g : Nat} {ob ob' : Option Nat} {w : World} (h : Next ob ob' w) : ∀ x ∈ Near g ob', x ∈ Near g ob ∨ w.heap.size ≤ x := fun x hx => by
  rcases h with rfl | ⟨k, rfl, hk⟩
  · exact .inl hx
  · simp [Near] at hx ⊢
    rcases hx with rfl | rfl
    · exact .inl (.inl rfl)
    · exact .inr hk
theorem Next.trans {ob ob' ob'' : Option Nat} {w w' : World} (h : Next ob ob' w) (k : Next ob' ob'' w') (hs : w.heap.size ≤ w'.heap.size) : Next ob ob'' w := by
  rcases k with rfl | ⟨q, rfl, hq⟩
  · exact h
  · exact .inr ⟨q, rfl, by omega⟩
def stepL (x : Int) (i : Nat) (o : List Nat) (fr : Nat) : List Nat := orLast (roomO o fr) (bitX x i * 2 ^ (7 - roomF fr))
/-- The bytes behind k bits. -/
def putsL (x : Int) (o : List Nat) (fr : Nat) : Nat → List Nat × Nat
  | 0 => (o, fr)
  | k + 1 => (stepL x k (putsL x o fr k).1 (putsL x o fr k).2, roomF (putsL x o fr k).2)
theorem roomO_len (o : List Nat) (fr : Nat) : (roomO o fr).length ≤ o.length + 1 := by unfold roomO; split <;> simp
theorem puts_len (x : Int) (o : List Nat) (fr : Nat) (k : Nat) : (putsL x o fr k).1.length ≤ o.length + k := by
  induction k with
  | zero => simp [putsL]
  | succ k ih =>
    have h := roomO_len (putsL x o fr k).1 (putsL x o fr k).2
    simp only [putsL, stepL, orLast, List.length_set]
    omega
set_option maxRecDepth 100000 in
set_option maxHeartbeats 400000 in
theorem putL (g : Nat) (iv : Value) (at_ : Int) (o : List Nat) (fr : Nat) (ob : Option Nat) (ho : o.length ≤ 500000) (x : Int) (hx : In64 x) (n : Nat) (hn : n ≤ 24) (w : World) (h : Wr 76 g iv at_ o fr ob w) :
    Calls Try.prog 39 #[.pointer (some ⟨g, 0, none⟩), .int .i64 x, .int .i64 (n : Nat)] w fun e w' => e = .returned (.tuple #[]) ∧ Chg (Near g ob) w w' ∧ ∃ ob', Wr 76 g iv at_ (putsL x o fr n).1 (putsL x o fr n).2 ob' w' ∧ Next ob ob' w := by
  have d1 : decide ((n : Int) < 0) = false := decide_eq_false (by omega)
  have d2 : decide (24 < n) = false := decide_eq_false (by omega)
  go_enter Try.func39, Try.ntmps39
  go_wp2_with fail
  go_loopw [17] (fun c wr => ∃ (k : Nat) (ob' : Option Nat), k ≤ n ∧ c = .int .i64 k ∧ Chg (Near g ob) w wr ∧ Next ob ob' w ∧ Wr 76 g iv at_ (putsL x o fr k).1 (putsL x o fr k).2 ob' wr) (fun c _ => n - (intOf c).toNat)
  case atStart => exact ⟨0, ob, by omega, rfl, Chg.refl _ _, .inl rfl, h⟩
  case round =>
    obtain ⟨k, ob1, hk, rfl, hCh, hNx, hW⟩ := hrel
    have hpl := puts_len x o fr k
    have hnx : (putsL x o fr (k + 1)) = (stepL x k (putsL x o fr k).1 (putsL x o fr k).2, roomF (putsL x o fr k).2) := rfl
    have HX := Lib.hid hnx
    clear hnx
    by_cases hlt : k < n
    · generalize putsL x o fr k = s at *
      obtain ⟨o1, f1⟩ := s
      simp only at hW hpl HX
      go_wp2_with fail
      refine (room_row _ g iv at_ o1 f1 ob1 (by omega) _ hW).mono ?_
      rintro e w2 ⟨rfl, hC, ob2, ⟨⟨vo, hb, hown, hob⟩, h8, hfu, hl256⟩, hnext⟩
      have hr8 : roomF f1 < 8 := h8
      have hro : 0 < (roomO o1 f1).length := by
        unfold roomO
        split
        · simp
        · rename_i hf
          have := hW.full (by omega)
          omega
      have hrl := roomO_len o1 f1
      obtain ⟨p, hp⟩ : ∃ p, p = roomF f1 := ⟨_, rfl⟩
      obtain ⟨q, hq⟩ : ∃ q, q = roomO o1 f1 := ⟨_, rfl⟩
      rw [← hp] at hb hr8 ⊢
      rw [← hq] at hown hro hrl hl256
      have HPe := Lib.hid hp
      have HQe := Lib.hid hq
      clear hp hq h8 hfu
      obtain ⟨hlen, hf⟩ := hown
      rcases hf with ⟨rfl, h0⟩ | ⟨gb, cap, cur, rfl, hgb, hg, hnc, hcm, hcs, ht⟩
      · omega
      obtain ⟨m, hm⟩ : ∃ m, q.length = m + 1 := ⟨q.length - 1, by omega⟩
      have hlast : cur[m]? = some (.int .u8 ((q[m]'(by omega) : Nat) : Int)) := by
        have h1 := congrArg (fun l => l[m]?) ht
        simp only [List.getElem?_take, show m < q.length * 1 by omega, if_true] at h1
        rw [← Array.getElem?_toList, h1]
        simp [cellsB, show m < q.length by omega]
      obtain ⟨M, hM⟩ : ∃ M, M = q.length := ⟨_, rfl⟩
      have c1 : w2.cell? ⟨g, 1, none⟩ = some (.slice (some ⟨gb, 0, none⟩) M cap) := by rw [hM]; exact hp_cell (j := 1) hb rfl
      have a1 : (M : Int) - 1 = (m : Int) := by omega
      have a2 : (m : Int) < (M : Int) := by omega
      have a3 : m < M := by omega
      have a4 : IntKind.i64.wrap ((M : Int) - 1) = (m : Int) := (IntWalk.i64_in _ (by omega)).trans a1
      have HM := Lib.hid hM
      clear hM
      have ce := hp_cell hg hlast
      obtain ⟨z, hz⟩ : ∃ z, z = q[m]'(by omega) := ⟨_, rfl⟩
      rw [← hz] at ce
      have hz8 : z < 256 := by rw [hz]; exact hl256 _ (List.getElem_mem _)
      have ff := fun j => hp_froz hg j
      have b4 : IntKind.i64.wrap (m : Int) = (m : Int) := IntWalk.i64_in _ (by omega)
      have b5 : (7 : Int) - (p : Int) = ((7 - p : Nat) : Int) := by omega
      have b6 : IntKind.i64.wrap (7 - (p : Int)) = ((7 - p : Nat) : Int) := (IntWalk.i64_in _ (by omega)).trans b5
      have b7 : IntKind.i64.wrap ((7 - p : Nat) : Int) = ((7 - p : Nat) : Int) := IntWalk.i64_in _ (by omega)
      obtain ⟨t, ht7⟩ : ∃ t, t = 7 - p := ⟨_, rfl⟩
      rw [← ht7] at b5 b6 b7
      have ht8 : t < 8 := by omega
      obtain ⟨y, hy⟩ : ∃ y, y = bitX x k := ⟨_, rfl⟩
      have hy2 : y < 2 := by rw [hy]; exact bitX_lt x k
      have e1 : bits BinOp.and IntKind.i64 (x / 2 ^ k) 1 = (y : Int) := by rw [i64_and1, hy]; unfold bitX; omega
      have e2 : IntKind.u8.wrap (y : Int) = (y : Int) := by rw [IntKind.wrap_u8']; omega
      have hyt : y * 2 ^ t < 256 := by
        have h1 : 2 ^ t ≤ 2 ^ 7 := Nat.pow_le_pow_right (by omega) (by omega)
        have h2 : y * 2 ^ t ≤ 1 * 2 ^ t := Nat.mul_le_mul_right _ (by omega)
        omega
      have e3 : IntKind.u8.wrap ((y : Int) * 2 ^ t) = ((y * 2 ^ t : Nat) : Int) := by
        rw [show (y : Int) * 2 ^ t = ((y * 2 ^ t : Nat) : Int) by simp, IntKind.wrap_u8']
        omega
      have e4 : bits BinOp.or IntKind.u8 (z : Int) ((y * 2 ^ t : Nat) : Int) = ((z ||| y * 2 ^ t : Nat) : Int) := u8_or_nat z (y * 2 ^ t) hz8 hyt
      obtain ⟨r, hr⟩ : ∃ r, r = y * 2 ^ t := ⟨_, rfl⟩
      rw [← hr] at e3 e4
      have HZ := Lib.hid hz
      have HY := Lib.hid hy
      have HT := Lib.hid ht7
      have HR := Lib.hid hr
      clear hz hy ht7 hr hyt
      go_wp2_with fail
      go_still_tail 24, (by kernel_rfl)
      have hgg : ¬g = gb := by omega
      have hNx2 := hNx.trans hnext hCh.size
      have hob2 : some gb = ob2 := hob
      have hC2 := hCh.trans2 hC (hNx.near)
      have hC3 : Chg (Near g ob) w (w2.drew.setCell ⟨gb, m, none⟩ (.int .u8 ((z ||| r : Nat) : Int))) := hC2.trans2 (((Chg.refl [gb] w2).drew).set (.inl (by simp)) _ _) (fun v9 hv9 => by simp at hv9; rw [hv9]; exact hNx2.near (g := g) gb (by rw [← hob2]; simp [Near]))
      have HC3 := Lib.hid hC3
      have HNX := Lib.hid hNx2
      clear hC3 hC2 hC
      have hb' : w2.drew.heap[g]? = _ := hb
      have hg' : w2.drew.heap[gb]? = _ := hg
      have hbn := hp_oth (i := m) (v := .int .u8 ((z ||| r : Nat) : Int)) hb' hgg
      have hgn := heap_set (i := m) (x := .int .u8 ((z ||| r : Nat) : Int)) hg'
      have hst : stepL x k o1 f1 = q.set m (z ||| r) := by
        unfold stepL orLast
        rw [← HQe.out, ← HPe.out, ← HT.out, ← HY.out, ← HR.out, show q.length - 1 = m by omega, List.getElem?_eq_getElem (by omega), ← HZ.out]
        rfl
      have htk : List.take (q.length * 1) (cur.setIfInBounds m (.int .u8 ((z ||| r : Nat) : Int))).toList = cellsB (q.set m (z ||| r)) := by
        rw [Array.toList_setIfInBounds, List.take_set, ht]
        unfold cellsB
        rw [List.map_set]
      have hrow : ∀ W : World, W.heap[gb]? = some (.cells (cur.setIfInBounds m (.int .u8 ((z ||| r : Nat) : Int))) 5 (0, 0)) → W.ownsRow (g + 1) 5 1 (.slice (some ⟨gb, 0, none⟩) q.length cap) (q.set m (z ||| r)).length (cellsB (q.set m (z ||| r))) := fun W hW2 => by
        rw [List.length_set]
        exact ⟨by rw [cellsB_len, List.length_set]; omega, .inr ⟨gb, cap, _, rfl, hgb, hW2, hnc, hcm, by simpa using hcs, htk⟩⟩
      have HRW := Lib.hid hrow
      have HBN := Lib.hid hbn
      have HGN := Lib.hid hgn
      have HST := Lib.hid hst
      have HL := Lib.hid hl256
      have hfg : w2.drew.frozen? ⟨gb, m, none⟩ = false := ff m
      clear hb' hg' hrow hbn hgn hst htk
      change wpList _ _ _ _ _ w2.drew
      go_wp2_with fail
      go_roundw
      case rel =>
        refine ⟨k + 1, ob2, hlt, by go_num, HC3.out, HNX.out, ?_⟩
        rw [HX.out]
        simp only
        rw [HST.out, ← HPe.out]
        refine ⟨⟨.slice (some ⟨gb, 0, none⟩) q.length cap, HBN.out, HRW.out _ HGN.out, hob⟩, hr8, fun _ => by rw [List.length_set]; exact hro, fun v hv => ?_⟩
        rcases List.mem_or_eq_of_mem_set hv with h | rfl
        · exact HL.out v h
        · exact Nat.or_lt_two_pow (n := 8) hz8 (by rw [HR.out]; have h1 : 2 ^ t ≤ 2 ^ 7 := Nat.pow_le_pow_right (by omega) (by omega); have h2 : y * 2 ^ t ≤ 1 * 2 ^ t := Nat.mul_le_mul_right _ (by omega); omega)
      case measure => simp [intOf]; omega
    · obtain rfl : n = k := by omega
      go_wp2_with fail
      go_end0
      exact ⟨rfl, hCh, ob1, hW, hNx⟩
end Go.Proofs.Ytioghgnngdcicaa
