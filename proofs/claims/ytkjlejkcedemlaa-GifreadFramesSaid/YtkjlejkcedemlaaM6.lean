/- A reader of GIF's codes: the row of a number. A reader of GIF's codes in memory. A reader of GIF's codes: what a code does. A reader of GIF's codes: one step. -/
import Derived.Test.YtkjlejkcedemlaaM5
import Derived.Deep.DeepCutAuto
import Derived.RegionTactic
import Derived.ChangeAlike
import Derived.Deep.RegionLaw
import Derived.Deep.CutBlock
namespace Go.Proofs.Ytkjlejkcedemlaa
set_option maxRecDepth 100000
set_option linter.unusedVariables false
open Go.ChangeShapes Go.WideShapes Go.ChangeAt Go.RowKit

/-- The row that a number stands for. -/
def rowOf (cl : Nat) (rows : List (List Nat)) (c : Nat) : Option (List Nat) := if c < cl then some [c] else if c < cl + 2 then none else rows[c - cl - 2]?
/-- The table says the rows. -/
structure TabOk (cl : Nat) (rows : List (List Nat)) (t : List (Nat × Nat)) : Prop where
  len : t.length = rows.length
  row : ∀ i r, rows[i]? = some r → ∃ a v pre, t[i]? = some (a, v) ∧ a < cl + 2 + i ∧ v < 256 ∧ rowOf cl rows a = some pre ∧ r = pre ++ [v]
def tabCells (t : List (Nat × Nat)) : List Value := t.flatMap fun x => [.int .i64 (x.1 : Nat), .int .u8 (x.2 : Nat)]
theorem tabCells_len (t : List (Nat × Nat)) : (tabCells t).length = t.length * 2 := by
  induction t with
  | nil => rfl
  | cons x t ih =>
    show (.int .i64 (x.1 : Nat) :: .int .u8 (x.2 : Nat) :: tabCells t).length = _
    simp [ih]
    omega
theorem tabCells_get (t : List (Nat × Nat)) (i a v : Nat) (h : t[i]? = some (a, v)) : (tabCells t)[i * 2]? = some (.int .i64 (a : Nat)) ∧ (tabCells t)[i * 2 + 1]? = some (.int .u8 (v : Nat)) := by
  induction t generalizing i with
  | nil => simp at h
  | cons x t ih =>
    show (.int .i64 (x.1 : Nat) :: .int .u8 (x.2 : Nat) :: tabCells t)[i * 2]? = _ ∧ (.int .i64 (x.1 : Nat) :: .int .u8 (x.2 : Nat) :: tabCells t)[i * 2 + 1]? = _
    cases i with
    | zero => simp at h; subst h; exact ⟨rfl, rfl⟩
    | succ i =>
      have := ih i (by simpa using h)
      rw [show (i + 1) * 2 = i * 2 + 1 + 1 by omega]
      simpa using this
theorem tabCells_snoc (t : List (Nat × Nat)) (a v : Nat) : tabCells (t ++ [(a, v)]) = tabCells t ++ [.int .i64 (a : Nat), .int .u8 (v : Nat)] := by simp [tabCells]
theorem clear_c (g o sz cl : Nat) (hs : sz ≤ 8) (hcl : Hid (cl = 2 ^ sz)) (w : World) (h : w.cell? ⟨g, o, none⟩ = some (.int .i64 (sz : Nat))) :
    Calls Try.prog 69 #[.pointer (some ⟨g, o, none⟩)] w fun e w' => e = .returned (.int .i64 ((cl : Nat) : Int)) ∧ w = w' := by
  rw [hcl.out]
  exact clear_w g o sz hs w h
theorem ca_alloc {w : World} {p : Addr} {v : Value} (o : Obj) (h : w.cell? p = some v) : (w.alloc o).drew.cell? p = some v := by
  show (w.alloc o).cell? p = some v
  rw [World.cell?_alloc_lt _ _ _ (lt_of_cell h)]
  exact h
theorem own_d2 {w : World} {base : Nat} {e : TypeId} {size n : Nat} {v : Value} {xs : List Value} (o1 o2 : Obj) (h : w.ownsRow base e size v n xs) : ((w.alloc o1).alloc o2).drew.ownsRow base e size v n xs := (h.alloc o1).alloc o2
theorem cell_d2 (w : World) (o1 : Obj) (c : Value) (t : TypeId) {x : Value} (h : c = x) : ((w.alloc o1).alloc (.cells #[c] t)).drew.cell? (Addr.add ⟨w.heap.size + 1, 0, none⟩ 0) = some x := by
  subst h
  have := hp_new0 (w.alloc o1) (.cells #[c] t)
  rw [World.size_alloc] at this
  exact hp_cell (W := (w.alloc o1).alloc (.cells #[c] t)) this rfl
theorem bel_d2 (w : World) (o1 o2 : Obj) : Below w.heap.size w ((w.alloc o1).alloc o2).drew := (((Below.refl _ w).alloc (Nat.le_refl _) o1).alloc (by simp) o2).drew
theorem hp_d2 (w : World) (o1 o2 : Obj) : ((w.alloc o1).alloc o2).drew.heap[w.heap.size]? = some o1 := hp_alloc o2 (hp_new0 w o1)
theorem bel_d3 {w wr : World} (h : Below w.heap.size w wr) (o1 o2 : Obj) : Below w.heap.size w ((wr.alloc o1).alloc o2).drew := ((h.alloc h.size o1).alloc (by have := h.size; simp; omega) o2).drew
theorem bel_grown {B : Nat} {w W W' : World} {row : Option Nat} (h : Below B w W) (hg : W.grownBy W' row) (hr : ∀ r, row = some r → B ≤ r) (hs : B ≤ W.heap.size) : Below B w W' :=
  h.trans ⟨hg.os, hg.tape, hg.output, hg.size, fun k hk => hg.block k (by omega) (fun e => by have := hr k e.symm; omega)⟩
theorem own_len {w : World} {base : Nat} {e : TypeId} {size n m : Nat} {v : Value} {xs : List Value} (h : n = m) (ho : w.ownsRow base e size v n xs) : w.ownsRow base e size v m xs := by subst h; exact ho
/-- The row, i pairs of it changed. -/
def revAt (M : List Nat) (i : Nat) : List Nat := (List.range M.length).map fun j => M.getD (if j < i ∨ M.length ≤ j + i then M.length - 1 - j else j) 0
theorem revAt_len (M : List Nat) (i : Nat) : (revAt M i).length = M.length := by simp [revAt]
theorem revAt_get (M : List Nat) (i j : Nat) (h : j < M.length) : (revAt M i)[j]? = some (M.getD (if j < i ∨ M.length ≤ j + i then M.length - 1 - j else j) 0) := by simp [revAt, h]
theorem revAt_zero (M : List Nat) : revAt M 0 = M := by
  apply List.ext_getElem?
  intro j
  by_cases h : j < M.length
  · rw [revAt_get M 0 j h, if_neg (by omega), List.getElem?_eq_getElem h]
    simp [h]
  · rw [List.getElem?_eq_none (by rw [revAt_len]; omega), List.getElem?_eq_none (by omega)]
theorem revAt_end (M : List Nat) (i : Nat) (h : M.length ≤ 2 * i + 1) : revAt M i = M.reverse := by
  apply List.ext_getElem?
  intro j
  by_cases hj : j < M.length
  · rw [revAt_get M i j hj, List.getElem?_reverse hj]
    by_cases h2 : j < i ∨ M.length ≤ j + i
    · rw [if_pos h2, List.getElem?_eq_getElem (by omega)]
      simp [show M.length - 1 - j < M.length by omega]
    · rw [if_neg h2, show M.length - 1 - j = j by omega, List.getElem?_eq_getElem hj]
      simp [hj]
  · rw [List.getElem?_eq_none (by rw [revAt_len]; omega), List.getElem?_eq_none (by simp; omega)]
theorem revAt_i (M : List Nat) (i k : Nat) (h : i + k + 1 = M.length) (hik : i < k) : (revAt M i)[i]? = some (M.getD i 0) := by rw [revAt_get M i i (by omega), if_neg (by omega)]
theorem revAt_k (M : List Nat) (i k : Nat) (h : i + k + 1 = M.length) (hik : i < k) : (revAt M i)[k]? = some (M.getD k 0) := by rw [revAt_get M i k (by omega), if_neg (by omega)]
theorem revAt_step (M : List Nat) (i k : Nat) (h : i + k + 1 = M.length) (hik : i < k) : ((revAt M i).set i (M.getD k 0)).set k (M.getD i 0) = revAt M (i + 1) := by
  apply List.ext_getElem?
  intro j
  by_cases hj : j < M.length
  · rw [revAt_get M (i + 1) j hj]
    by_cases h1 : j = k
    · subst h1
      rw [List.getElem?_set_self (by simp [revAt_len]; omega), if_pos (by omega)]
      congr 2
      omega
    · rw [List.getElem?_set_ne (Ne.symm h1)]
      by_cases h2 : j = i
      · subst h2
        rw [List.getElem?_set_self (by simp [revAt_len]; omega), if_pos (by omega)]
        congr 2
        omega
      · rw [List.getElem?_set_ne (Ne.symm h2), revAt_get M i j hj]
        by_cases h3 : j < i ∨ M.length ≤ j + i
        · rw [if_pos h3, if_pos (by omega)]
        · rw [if_neg h3, if_neg (by omega)]
  · rw [List.getElem?_eq_none (by simp [revAt_len]; omega), List.getElem?_eq_none (by rw [revAt_len]; omega)]
theorem own_some {w : World} {base : Nat} {e : TypeId} {size n : Nat} {v : Value} {xs : List Value} (h : w.ownsRow base e size v n xs) (hn : 0 < n * size) : ∃ g cap, v = .slice (some ⟨g, 0, none⟩) n cap := by
  obtain ⟨hl, hf⟩ := h
  rcases hf with ⟨rfl, h0⟩ | ⟨g, cap, cur, rfl, _⟩
  · exfalso; subst h0; simp at hn
  · exact ⟨g, cap, rfl⟩
theorem own_cell {w : World} {base : Nat} {e : TypeId} {n cap g j x : Nat} {l : List Nat} (h : w.ownsRow base e 1 (.slice (some ⟨g, 0, none⟩) n cap) n (cellsB l)) (hj : l[j]? = some x) : w.cell? ⟨g, j, none⟩ = some (.int .u8 (x : Nat)) := by
  obtain ⟨hl, hf⟩ := h
  have hjl := (List.getElem?_eq_some_iff.1 hj).1
  rw [cellsB_len] at hl
  rcases hf with ⟨h0, _⟩ | ⟨g', cap', cur, he, hB, hg, hnc, hcm, hcs, ht⟩
  · cases h0
  · cases he
    refine hp_cell hg ?_
    have h1 := congrArg (fun l => l[j]?) ht
    simp only [List.getElem?_take, show j < n * 1 by omega, if_true] at h1
    rw [← Array.getElem?_toList, h1]
    simp [cellsB, hj]
theorem own_froz {w : World} {base : Nat} {e : TypeId} {n cap g size : Nat} {xs : List Value} (h : w.ownsRow base e size (.slice (some ⟨g, 0, none⟩) n cap) n xs) : ∀ j, w.frozen? ⟨g, j, none⟩ = false := by
  obtain ⟨hl, hf⟩ := h
  rcases hf with ⟨h0, _⟩ | ⟨g', cap', cur, he, hB, hg, hnc, hcm, hcs, ht⟩
  · cases h0
  · cases he
    exact fun j => hp_froz hg j
theorem own_set {w : World} {base : Nat} {e : TypeId} {n cap g j x : Nat} {l : List Nat} (h : w.ownsRow base e 1 (.slice (some ⟨g, 0, none⟩) n cap) n (cellsB l)) : (w.setCell ⟨g, j, none⟩ (.int .u8 (x : Nat))).ownsRow base e 1 (.slice (some ⟨g, 0, none⟩) n cap) n (cellsB (l.set j x)) := by
  obtain ⟨hl, hf⟩ := h
  rw [cellsB_len] at hl
  refine ⟨by simp [cellsB, hl], ?_⟩
  rcases hf with ⟨h0, _⟩ | ⟨g', cap', cur, he, hB, hg, hnc, hcm, hcs, ht⟩
  · cases h0
  · cases he
    refine .inr ⟨g, cap, _, rfl, hB, heap_set hg, hnc, hcm, by simp [hcs], ?_⟩
    rw [Array.toList_setIfInBounds, List.take_set, ht]
    unfold cellsB
    rw [List.map_set]
theorem own_far {w : World} {base : Nat} {e : TypeId} {n cap g size : Nat} {xs : List Value} (h : w.ownsRow base e size (.slice (some ⟨g, 0, none⟩) n cap) n xs) : base ≤ g := (h.lt g rfl).1
theorem clear_s (g o sz cl : Nat) (hs : sz ≤ 8) (hcl : Hid (cl = 2 ^ sz)) (w : World) (h : w.cell? ⟨g, o, none⟩ = some (.int .i64 (sz : Nat))) :
    Calls Try.prog 69 #[.pointer (some ⟨g, o, none⟩)] w fun e w' => e = .returned (.int .i64 ((cl : Nat) : Int)) ∧ w' = w :=
  (clear_c g o sz cl hs hcl w h).mono fun _ _ ⟨h1, h2⟩ => ⟨h1, h2.symm⟩
set_option maxRecDepth 100000 in
set_option maxHeartbeats 1000000 in
theorem row_r (g sz cl base : Nat) (vt : Value) (rows : List (List Nat)) (t : List (Nat × Nat)) (hs : sz ≤ 8) (hc4 : 4 ≤ cl ∧ cl ≤ 256) (hcl : Hid (cl = 2 ^ sz)) (hfull : cl + 2 + rows.length ≤ 4096) (hT : TabOk cl rows t)
    (code : Nat) (L : List Nat) (hL : rowOf cl rows code = some L) (hlen : L.length ≤ 5000) (w : World)
    (h2 : w.cell? ⟨g, 2, none⟩ = some (.int .i64 (sz : Nat))) (h5 : w.cell? ⟨g, 5, none⟩ = some vt) (hown : w.ownsRow base 123 2 vt t.length (tabCells t)) :
    Calls Try.prog 77 #[.pointer (some ⟨g, 0, none⟩), .int .i64 (code : Nat)] w fun e w' => ∃ v, e = .returned v ∧ w'.ownsRow w.heap.size 5 1 v L.length (cellsB L) ∧ Below w.heap.size w w' := by
  obtain ⟨i0, hi, hz0, hz1, hz2⟩ := info_parts info8
  have HL := Lib.hid hL
  clear hL
  go_enter Try.func77, Try.ntmps77
  go_wp2_with fail
  go_loopw [1, 5] (fun s1 s5 wr => ∃ (c : Nat) (pre acc : List Nat), s1 = .int .i64 (c : Nat) ∧ Hid (rowOf cl rows c = some pre) ∧ Hid (L = pre ++ acc.reverse) ∧ wr.ownsRow w.heap.size 5 1 s5 acc.length (cellsB acc) ∧ Below w.heap.size w wr ∧ (∀ x ∈ acc, x < 256)) (fun s1 _ _ => (intOf s1).toNat)
  case atStart => exact ⟨code, L, [], rfl, HL, Lib.hid (by simp), World.ownsRow_nil _ _ _ _, Below.refl _ _, by simp⟩
  case round =>
    obtain ⟨c, pre, acc, rfl, hp, hLe, hac, hB, h256⟩ := hrel
    have hb2 : w.heap.size ≤ w.heap.size := Nat.le_refl _
    have k2 : wr.cell? ⟨g, 2, none⟩ = some (.int .i64 (sz : Nat)) := (hB.cell (p := ⟨g, 2, none⟩) (lt_of_cell h2)).trans h2
    have k5 : wr.cell? ⟨g, 5, none⟩ = some vt := (hB.cell (p := ⟨g, 5, none⟩) (lt_of_cell h5)).trans h5
    have hal : acc.length ≤ 5000 := by
      have := congrArg List.length hLe.out
      simp at this
      omega
    by_cases hlt : c < cl
    · have hpe : pre = [c] := by
        have := hp.out
        unfold rowOf at this
        rw [if_pos hlt] at this
        injection this with this
        exact this.symm
      have c256 : c < 256 := by omega
      have d1 : decide ((cl : Int) ≤ (c : Int)) = false := by simp; omega
      have w8 : IntKind.u8.wrap (c : Int) = (c : Int) := by rw [IntKind.wrap_u8']; omega
      have hLr : cellsB acc ++ [.int .u8 ((c : Nat) : Int)] = cellsB L.reverse := by rw [← cellsB_snoc, hLe.out, hpe]; simp
      have hLl : acc.length + 1 = L.length := by rw [hLe.out, hpe]; simp
      have HLR := Lib.hid hLr
      have HLL := Lib.hid hLl
      clear hLr hLl hpe hp hLe HL
      go_wp2_with (first | (go_at_call 69; refine (clear_c g 2 sz cl hs hcl _ k2).mono ?_; rintro e w' ⟨rfl, rfl⟩) | (at_builtin; refine wpList_append_own_at _ rfl _ _ 22 rfl w.heap.size 5 i0 _ 1 1 Try.underlying22 hi hz0 hz1 hz2 rfl (by decide) _ _ _ rfl (hac.alloc _) ⟨wr.heap.size, 0, none⟩ 1 1 [.int .u8 (c : Nat)] rfl rfl ?_ ?_ ?_ ?_ ?_ ?_))
      · intro j u hj
        cases j with
        | zero => simp at hj; subst hj; exact hp_cell (j := 0) (hp_new0 wr _) rfl
        | succ j => simp at hj
      · intro u hu; simp at hu; subst hu; rfl
      · unfold maxLen; omega
      · omega
      · have := hB.size; simp; omega
      intro u2 w4 hown' hgrow _ hat
      have hB4 := bel_grown (hB.alloc hB.size (.cells #[.int .u8 (c : Nat)] 5)) hgrow (fun r hr => (hac.lt r hr).1) (by have := hB.size; simp; omega)
      rw [HLR.out] at hown'
      replace hown' := own_len HLL.out hown'
      obtain ⟨gb, cu, rfl⟩ := own_some hown' (by have := HLL.out; omega)
      have HO := Lib.hid hown'
      have HB4 := Lib.hid hB4
      have hL1 : 0 < L.length := by have := HLL.out; omega
      clear hown' hB4 hgrow hat hac hB k2 k5 h2 h5
      obtain ⟨N, hN⟩ : ∃ N, N = L.length := ⟨_, rfl⟩
      rw [← hN] at hL1 hlen ⊢
      have HN := Lib.hid hN
      clear hN
      have hN0 : (0 : Int) + (((N : Nat) : Int) - 1) + 1 = N := by omega
      have HN0 := Lib.hid hN0
      clear hN0
      go_wp2_with fail
      go_loopw [7, 8] (fun s7 s8 wx => ∃ (i : Nat) (kk : Int), s7 = .int .i64 (i : Nat) ∧ s8 = .int .i64 kk ∧ 2 * i ≤ N ∧ Hid ((i : Int) + kk + 1 = N) ∧ wx.ownsRow w.heap.size 5 1 (.slice (some ⟨gb, 0, none⟩) N cu) N (cellsB (revAt L.reverse i)) ∧ Below w.heap.size w wx) (fun s7 _ _ => N - (intOf s7).toNat)
      case atStart => exact ⟨0, _, rfl, rfl, by omega, HN0, by rw [revAt_zero, HN.out]; exact HO.out, HB4.out⟩
      case round =>
        obtain ⟨i, kk, rfl, rfl, hi2, hik, ho, hB⟩ := hrel
        by_cases hlt : (i : Int) < kk
        · obtain ⟨k, rfl⟩ := Int.eq_ofNat_of_zero_le (show 0 ≤ kk by omega)
          have hk := hik.out
          have hml : L.reverse.length = N := by simp [← HN.out]
          have hgi := revAt_i L.reverse i k (by omega) (by omega)
          have hgk := revAt_k L.reverse i k (by omega) (by omega)
          have hst := revAt_step L.reverse i k (by omega) (by omega)
          have ci := own_cell ho hgi
          have ck := own_cell ho hgk
          have ff := own_froz ho
          have g1 : (i : Int) < (N : Int) := by omega
          have g2 : (k : Int) < (N : Int) := by omega
          have g3 : i < N := by omega
          have g4 : k < N := by omega
          have g5 : i < k := by omega
          have HK := Lib.hid hk
          have HS := Lib.hid hst
          have HO2 := Lib.hid ho
          have HB2 := Lib.hid hB
          clear hk hst ho hB hml hgi hgk
          generalize L.reverse.getD i 0 = xi at *
          generalize L.reverse.getD k 0 = xk at *
          go_wp2_with fail
          go_region
          all_goals
            go_wp2
            go_roundw
            case rel => exact ⟨i + 1, (k : Int) - 1, by go_num, rfl, by have := HK.out; omega, Lib.hid (by have := HK.out; omega), by rw [← HS.out]; exact own_set (own_set HO2.out), ((HB2.out.setCell (p := ⟨gb, i, none⟩) (own_far HO2.out) _).setCell (p := ⟨gb, k, none⟩) (own_far HO2.out) _).drew⟩
            case measure => simp [intOf]; omega
        · have hk := hik.out
          have hre := revAt_end L.reverse i (by simp; have := HN.out; omega)
          rw [hre, List.reverse_reverse] at ho
          have HO2 := Lib.hid ho
          clear ho hre hk
          go_wp2_with fail
          go_ret
          exact ⟨_, rfl, own_len HN.out HO2.out, hB⟩
    · obtain ⟨i, hci⟩ : ∃ i, c = cl + 2 + i := by
        have := hp.out
        unfold rowOf at this
        rw [if_neg hlt] at this
        by_cases h9 : c < cl + 2
        · rw [if_pos h9] at this; cases this
        · exact ⟨c - cl - 2, by omega⟩
      have hri : rows[i]? = some pre := by
        have := hp.out
        unfold rowOf at this
        rw [if_neg hlt, if_neg (by omega)] at this
        rw [← this]
        congr 1
        omega
      have hil : i < rows.length := (List.getElem?_eq_some_iff.1 hri).1
      obtain ⟨a, v, pre2, ht, ha, hv, hro, hpe⟩ := hT.row i pre hri
      have htl : i < t.length := by rw [hT.len]; exact hil
      obtain ⟨q1, q2⟩ := tabCells_get t i a v ht
      have hS := Sl.of_own hown
      obtain ⟨_, At, capt, rfl, s1, s2, s3⟩ := hS
      obtain ⟨bt, off, rfl, hbt, hct⟩ := s3 (by omega)
      have q3 : wr.cell? ⟨bt, off + i * 2, none⟩ = some (.int .i64 (a : Nat)) := ((hB.cell (p := ⟨bt, off + i * 2, none⟩) hbt).trans (hct (i * 2) (by omega))).trans q1
      have q4 : wr.cell? ⟨bt, off + i * 2 + 1, none⟩ = some (.int .u8 (v : Nat)) := ((hB.cell (p := ⟨bt, off + (i * 2 + 1), none⟩) hbt).trans (hct (i * 2 + 1) (by omega))).trans q2
      have HE := Lib.hid hpe
      have HR := Lib.hid hro
      have HT := Lib.hid ht
      clear hpe hro ht hri q1 q2 hct hown s3 
      have d1 : decide ((cl : Int) ≤ (c : Int)) = true := by simp; omega
      have g1 : c < 4096 := by omega
      obtain ⟨m, hm⟩ : ∃ m, c = cl + m := ⟨2 + i, by omega⟩
      have e1 : (c : Int) - (cl : Int) = (m : Int) := by omega
      have e2 : IntKind.i64.wrap ((c : Int) - (cl : Int)) = (m : Int) := (IntWalk.i64_in _ (by omega)).trans e1
      have e3 : (m : Int) - 2 = (i : Int) := by omega
      have e4 : IntKind.i64.wrap ((m : Int) - 2) = (i : Int) := (IntWalk.i64_in _ (by omega)).trans e3
      have e5 : IntKind.i64.wrap (m : Int) = (m : Int) := i64_small m (by omega)
      have e6 : IntKind.i64.wrap (i : Int) = (i : Int) := i64_small i (by omega)
      have b3 : i < t.length := htl
      have b4 : (i : Int) < (t.length : Int) := by omega
      have HCI := Lib.hid hci
      clear hci hm
      go_wp2_with (go_at_call 69; refine (clear_c g 2 sz cl hs hcl _ k2).mono ?_; rintro e w' ⟨rfl, rfl⟩)
      have K0 : wr.cell? ⟨g, 2, none⟩ = some (.int .i64 (sz : Nat)) ∧ wr.cell? ⟨g, 5, none⟩ = some (.slice (some ⟨bt, off, none⟩) t.length capt) ∧ wr.cell? ⟨bt, off + i * 2, none⟩ = some (.int .i64 (a : Nat)) ∧ wr.cell? ⟨bt, off + i * 2 + 1, none⟩ = some (.int .u8 (v : Nat)) := ⟨k2, k5, q3, q4⟩
      have K1 : ∀ o, (wr.alloc o).drew.cell? ⟨g, 2, none⟩ = some (.int .i64 (sz : Nat)) ∧ (wr.alloc o).drew.cell? ⟨g, 5, none⟩ = some (.slice (some ⟨bt, off, none⟩) t.length capt) ∧ (wr.alloc o).drew.cell? ⟨bt, off + i * 2, none⟩ = some (.int .i64 (a : Nat)) ∧ (wr.alloc o).drew.cell? ⟨bt, off + i * 2 + 1, none⟩ = some (.int .u8 (v : Nat)) := fun o =>
        ⟨ca_alloc o k2, ca_alloc o k5, ca_alloc o q3, ca_alloc o q4⟩
      have HK1 := Lib.hid K1
      clear K1
      go_region_held3 (fun w' => w'.cell? ⟨g, 2, none⟩ = some (.int .i64 (sz : Nat)) ∧ w'.cell? ⟨g, 5, none⟩ = some (.slice (some ⟨bt, off, none⟩) t.length capt) ∧ w'.cell? ⟨bt, off + i * 2, none⟩ = some (.int .i64 (a : Nat)) ∧ w'.cell? ⟨bt, off + i * 2 + 1, none⟩ = some (.int .u8 (v : Nat)))
        (first | with_reducible exact K0 | with_reducible exact HK1.out _ | go_keep)
        (first | (go_at_call 69; refine (clear_c g 2 sz cl hs hcl _ (by first | exact k2 | exact ca_alloc _ k2)).mono ?_; rintro e w' ⟨rfl, rfl⟩))
      all_goals
        go_wp2_with (at_builtin; refine wpList_append_own_at _ rfl _ _ 22 rfl w.heap.size 5 i0 _ 1 1 Try.underlying22 hi hz0 hz1 hz2 rfl (by decide) _ _ _ rfl (own_d2 _ _ hac) ⟨wr.heap.size + 1, 0, none⟩ 1 1 [.int .u8 (v : Nat)] rfl rfl ?_ ?_ ?_ ?_ ?_ ?_)
        · intro j u hj
          cases j with
          | zero => simp at hj; subst hj; exact (cell_d2 wr _ _ _ rfl)
          | succ j => simp at hj
        · intro u hu; simp at hu; subst hu; rfl
        · unfold maxLen; omega
        · omega
        · have := hB.size; simp; omega
        intro u2 w4 hown' hgrow _ hat
        have hB4 := bel_grown (bel_d3 hB (.cells #[.int .i64 (a : Nat), .int .u8 (v : Nat)] 123) (.cells #[.int .u8 (v : Nat)] 5)) hgrow (fun r hr => (hac.lt r hr).1) (by have := hB.size; simp; omega)
        have hbk : w4.heap[wr.heap.size]? = some (.cells #[.int .i64 (a : Nat), .int .u8 (v : Nat)] 123 (0, 0)) := (hgrow.block wr.heap.size (by simp; omega) (fun e => by have := (hac.lt _ e.symm).2; omega)).trans (hp_d2 wr _ _)
        have c0 := hp_cell (j := 0) hbk rfl
        rw [← cellsB_snoc] at hown'
        have HO := Lib.hid hown'
        have HB4 := Lib.hid hB4
        clear hown' hB4 hgrow hat hac hB k2 k5 q3 q4
        go_wp2
        go_roundw
        case rel => exact ⟨a, pre2, acc ++ [v], rfl, HR, Lib.hid (by rw [hLe.out, HE.out]; simp), own_len (by simp) HO.out, HB4.out, fun x hx => by rcases List.mem_append.1 hx with hx | hx; exact h256 x hx; rw [List.mem_singleton.1 hx]; exact hv⟩
        case measure => have := HCI.out; simp [intOf]; omega
end Go.Proofs.Ytkjlejkcedemlaa

namespace Go.Proofs.Ytkjlejkcedemlaa
set_option maxRecDepth 100000
set_option linter.unusedVariables false
open Go.ChangeShapes Go.WideShapes Go.ChangeAt Go.RowKit

def gz (l : List Nat) (i : Nat) : Nat := (l[i]?).getD 0
theorem gz_lt {l : List Nat} (h : ∀ x ∈ l, x < 256) (j : Nat) : gz l j < 256 := getD_lt h j
/-- Bytes that wait to be put out. -/
def Wts (g : Nat) (vt vo vw : Value) (wt : List Nat) (w : World) : Prop :=
  ∃ A c, vw = .slice A wt.length c ∧ wt.length ≤ c ∧ c ≤ maxLen ∧ (A = none → c = 0) ∧ Byt w A wt.length (gz wt) ∧ ∀ a, A = some a → g < a.block ∧ a.block < w.heap.size ∧ vt.ownBlock ≠ some a.block ∧ vo.ownBlock ≠ some a.block
/-- A reader's rows in memory; S: its blocks. -/
structure LzMem (g gl : Nat) (A : Option Addr) (n cap : Nat) (b : Nat → Nat) (p : Nat) (vt vw vo : Value) (t : List (Nat × Nat)) (wt o : List Nat) (S : List Nat) (w : World) : Prop where
  rd : Rd 117 gl A n cap b p (.slice none 0 0) 0 w
  tab : w.ownsRow (g + 1) 123 2 vt t.length (tabCells t)
  out : w.ownsRow (g + 1) 5 1 vo o.length (cellsB o)
  wts : Wts g vt vo vw wt w
  ap : ∀ k, vt.ownBlock = some k → vo.ownBlock ≠ some k
  glg : gl < g
  ab : ∀ a, A = some a → a.block < g
  gs : g < w.heap.size
  s1 : g ∈ S
  s2 : gl ∈ S
  s3 : ∀ k, vt.ownBlock = some k → k ∈ S
  s4 : ∀ k, vo.ownBlock = some k → k ∈ S
  sl : ∀ k ∈ S, k < w.heap.size
/-- What S may become. -/
def More (S S' : List Nat) (w : World) : Prop := ∀ k ∈ S', k ∈ S ∨ w.heap.size ≤ k
theorem More.refl (S : List Nat) (w : World) : More S S w := fun _ h => .inl h
theorem More.trans {S S' S'' : List Nat} {w w' : World} (h : More S S' w) (k : More S' S'' w') (hs : w.heap.size ≤ w'.heap.size) : More S S'' w := fun x hx => by
  rcases k x hx with h1 | h1
  · exact h x h1
  · exact .inr (by omega)
section
variable {g gl : Nat} {A : Option Addr} {n cap : Nat} {b : Nat → Nat} {p : Nat} {vt vw vo : Value} {t : List (Nat × Nat)} {wt o : List Nat} {S : List Nat} {w w' : World}
theorem Wts.chg {T : List Nat} (h : Wts g vt vo vw wt w) (hc : Chg T w w') (hT : ∀ k ∈ T, k ≤ g ∨ w.heap.size ≤ k ∨ vt.ownBlock = some k ∨ vo.ownBlock = some k) : Wts g vt vo vw wt w' := by
  obtain ⟨A, c, he, h1, h2, hz, hb, ha⟩ := h
  refine ⟨A, c, he, h1, h2, hz, hb.chg hc (fun _ a hA hm => ?_), fun a hA => ?_⟩
  · obtain ⟨q1, q2, q3, q4⟩ := ha a hA
    rcases hT _ hm with h | h | h | h
    · omega
    · omega
    · exact q3 h
    · exact q4 h
  · obtain ⟨q1, q2, q3, q4⟩ := ha a hA
    exact ⟨q1, Nat.lt_of_lt_of_le q2 hc.size, q3, q4⟩
theorem own_chg' {base size m : Nat} {e : TypeId} {v : Value} {xs : List Value} (h : w.ownsRow base e size v m xs) {T : List Nat} (hc : Chg T w w') (hT : ∀ k ∈ T, k < base ∨ w.heap.size ≤ k) : w'.ownsRow base e size v m xs :=
  own_chg h hc (fun k hk hm => by have h1 := h.lt k hk; rcases hT k hm with h2 | h2 <;> omega)
/-- What changes the reader's own block, or blocks that are new, leaves all else. -/
theorem LzMem.setG {T : List Nat} (h : LzMem g gl A n cap b p vt vw vo t wt o S w) (hc : Chg T w w') (hT : ∀ k ∈ T, k = g ∨ w.heap.size ≤ k) : LzMem g gl A n cap b p vt vw vo t wt o S w' := by
  have hgs := h.gs
  have hgl := h.glg
  refine ⟨h.rd.chg hc (fun hm => by rcases hT _ hm with h1 | h1 <;> omega) (fun _ a hA hm => ?_), own_chg' h.tab hc (fun k hk => ?_), own_chg' h.out hc (fun k hk => ?_), h.wts.chg hc (fun k hk => ?_), h.ap, h.glg, h.ab, Nat.lt_of_lt_of_le h.gs hc.size, h.s1, h.s2, h.s3, h.s4, fun k hk => Nat.lt_of_lt_of_le (h.sl k hk) hc.size⟩
  · have := h.ab a hA
    rcases hT _ hm with h1 | h1 <;> omega
  · rcases hT k hk with h1 | h1 <;> omega
  · rcases hT k hk with h1 | h1 <;> omega
  · rcases hT k hk with h1 | h1 <;> omega
theorem LzMem.below (h : LzMem g gl A n cap b p vt vw vo t wt o S w) (hb : Below w.heap.size w w') : LzMem g gl A n cap b p vt vw vo t wt o S w' := h.setG (T := []) (Chg.of_below hb) (by simp)
theorem LzMem.drewN (h : LzMem g gl A n cap b p vt vw vo t wt o S w) (k : Nat) : LzMem g gl A n cap b p vt vw vo t wt o S (w.drewN k) := h.setG (T := []) ((Chg.refl [] w).drewN k) (by simp)
theorem LzMem.take {q : Nat} (h : LzMem g gl A n cap b p vt vw vo t wt o S w) (hc : Chg [gl] w w') (hr : Rd 117 gl A n cap b q (.slice none 0 0) 0 w') : LzMem g gl A n cap b q vt vw vo t wt o S w' := by
  have hgl := h.glg
  exact ⟨hr, own_chg' h.tab hc (by simp; omega), own_chg' h.out hc (by simp; omega), h.wts.chg hc (by simp; omega), h.ap, h.glg, h.ab, Nat.lt_of_lt_of_le h.gs hc.size, h.s1, h.s2, h.s3, h.s4, fun k hk => Nat.lt_of_lt_of_le (h.sl k hk) hc.size⟩
theorem LzMem.newWts {vw' : Value} {wt' : List Nat} (h : LzMem g gl A n cap b p vt vw vo t wt o S w) (hw : Wts g vt vo vw' wt' w) : LzMem g gl A n cap b p vt vw' vo t wt' o S w := ⟨h.rd, h.tab, h.out, hw, h.ap, h.glg, h.ab, h.gs, h.s1, h.s2, h.s3, h.s4, h.sl⟩
theorem LzMem.nilTab (h : LzMem g gl A n cap b p vt vw vo t wt o S w) : LzMem g gl A n cap b p (.slice none 0 0) vw vo [] wt o S w := by
  obtain ⟨Aw, c, he, h1, h2, hz, hb, ha⟩ := h.wts
  exact ⟨h.rd, World.ownsRow_nil _ _ _ _, h.out, ⟨Aw, c, he, h1, h2, hz, hb, fun a hA => by obtain ⟨q1, q2, q3, q4⟩ := ha a hA; exact ⟨q1, q2, (fun e => by cases e), q4⟩⟩, (fun k hk => by cases hk), h.glg, h.ab, h.gs, h.s1, h.s2, (fun k hk => by cases hk), h.s4, h.sl⟩
theorem LzMem.nilOut (h : LzMem g gl A n cap b p vt vw vo t wt o S w) : LzMem g gl A n cap b p vt vw (.slice none 0 0) t wt [] S w := by
  obtain ⟨Aw, c, he, h1, h2, hz, hb, ha⟩ := h.wts
  exact ⟨h.rd, h.tab, World.ownsRow_nil _ _ _ _, ⟨Aw, c, he, h1, h2, hz, hb, fun a hA => by obtain ⟨q1, q2, q3, q4⟩ := ha a hA; exact ⟨q1, q2, q3, (fun e => by cases e)⟩⟩, (fun k hk e => by cases e), h.glg, h.ab, h.gs, h.s1, h.s2, h.s3, (fun k hk => by cases hk), h.sl⟩
/-- A row that was appended to. -/
theorem LzMem.newOut {vo' : Value} {o' : List Nat} (h : LzMem g gl A n cap b p vt vw vo t wt o S w) (hg : w.grownBy w' vo.ownBlock) (ho : w'.ownsRow (g + 1) 5 1 vo' o'.length (cellsB o')) (hat : vo'.ownBlock = vo.ownBlock ∨ vo'.ownBlock = some w.heap.size) :
    ∃ S', LzMem g gl A n cap b p vt vw vo' t wt o' S' w' ∧ More S S' w ∧ Chg S w w' := by
  have hgs := h.gs
  have hgl := h.glg
  have hc : Chg vo.ownBlock.toList w w' := Chg.grown hg (fun r hr => by rw [hr]; simp)
  have hT : ∀ k ∈ vo.ownBlock.toList, vo.ownBlock = some k := fun k hk => by simpa using hk
  have hTg : ∀ k ∈ vo.ownBlock.toList, g < k := fun k hk => by have := h.out.lt k (hT k hk); omega
  have hsz := hc.size
  obtain ⟨Aw, c, he, h1, h2, hz, hb, ha⟩ := h.wts.chg hc (fun k hk => .inr (.inr (.inr (hT k hk))))
  obtain ⟨Aw0, c0, he0, _, _, _, _, ha0⟩ := h.wts
  refine ⟨vo'.ownBlock.toList ++ S, ⟨h.rd.chg hc (fun hm => by have := hTg _ hm; omega) (fun _ a hA hm => by have := hTg _ hm; have := h.ab a hA; omega), own_chg h.tab hc (fun k hk hm => h.ap k hk (hT k hm)), ho, ⟨Aw, c, he, h1, h2, hz, hb, fun a hA => ?_⟩, fun k hk e => ?_, h.glg, h.ab, by omega, by simp [h.s1], by simp [h.s2], fun k hk => by simp [h.s3 k hk], fun k hk => by simp [hk], fun k hk => ?_⟩, fun k hk => ?_, hc.mono (fun k hk => h.s4 k (hT k hk))⟩
  · obtain ⟨q1, q2, q3, q4⟩ := ha a hA
    refine ⟨q1, q2, q3, fun e => ?_⟩
    rcases hat with h5 | h5
    · exact q4 (h5.symm.trans e)
    · rw [h5] at e
      injection e with e
      rw [he] at he0
      injection he0 with e1 e2 e3
      subst e1
      have := (ha0 a hA).2.1
      omega
  · rcases hat with h5 | h5
    · exact h.ap k hk (h5.symm.trans e)
    · rw [h5] at e
      injection e with e
      have := h.tab.lt k hk
      omega
  · have h6 : vo'.ownBlock = some k ∨ k ∈ S := by simpa using hk
    rcases h6 with h6 | h6
    · exact (ho.lt k h6).2
    · have := h.sl k h6
      omega
  · have h6 : vo'.ownBlock = some k ∨ k ∈ S := by simpa using hk
    rcases h6 with h6 | h6
    · rcases hat with h5 | h5
      · exact .inl (h.s4 k (h5.symm.trans h6))
      · rw [h5] at h6
        injection h6 with h6
        exact .inr (by omega)
    · exact .inl h6
theorem LzMem.newTab {vt' : Value} {t' : List (Nat × Nat)} (h : LzMem g gl A n cap b p vt vw vo t wt o S w) (hg : w.grownBy w' vt.ownBlock) (ho : w'.ownsRow (g + 1) 123 2 vt' t'.length (tabCells t')) (hat : vt'.ownBlock = vt.ownBlock ∨ vt'.ownBlock = some w.heap.size) :
    ∃ S', LzMem g gl A n cap b p vt' vw vo t' wt o S' w' ∧ More S S' w ∧ Chg S w w' := by
  have hgs := h.gs
  have hgl := h.glg
  have hc : Chg vt.ownBlock.toList w w' := Chg.grown hg (fun r hr => by rw [hr]; simp)
  have hT : ∀ k ∈ vt.ownBlock.toList, vt.ownBlock = some k := fun k hk => by simpa using hk
  have hTg : ∀ k ∈ vt.ownBlock.toList, g < k := fun k hk => by have := h.tab.lt k (hT k hk); omega
  have hsz := hc.size
  obtain ⟨Aw, c, he, h1, h2, hz, hb, ha⟩ := h.wts.chg hc (fun k hk => .inr (.inr (.inl (hT k hk))))
  obtain ⟨Aw0, c0, he0, _, _, _, _, ha0⟩ := h.wts
  refine ⟨vt'.ownBlock.toList ++ S, ⟨h.rd.chg hc (fun hm => by have := hTg _ hm; omega) (fun _ a hA hm => by have := hTg _ hm; have := h.ab a hA; omega), ho, own_chg h.out hc (fun k hk hm => h.ap k (hT k hm) hk), ⟨Aw, c, he, h1, h2, hz, hb, fun a hA => ?_⟩, fun k hk e => ?_, h.glg, h.ab, by omega, by simp [h.s1], by simp [h.s2], fun k hk => by simp [hk], fun k hk => by simp [h.s4 k hk], fun k hk => ?_⟩, fun k hk => ?_, hc.mono (fun k hk => h.s3 k (hT k hk))⟩
  · obtain ⟨q1, q2, q3, q4⟩ := ha a hA
    refine ⟨q1, q2, fun e => ?_, q4⟩
    rcases hat with h5 | h5
    · exact q3 (h5.symm.trans e)
    · rw [h5] at e
      injection e with e
      rw [he] at he0
      injection he0 with e1 e2 e3
      subst e1
      have := (ha0 a hA).2.1
      omega
  · rcases hat with h5 | h5
    · exact h.ap k (h5.symm.trans hk) e
    · rw [h5] at hk
      injection hk with hk
      have := h.out.lt k e
      omega
  · have h6 : vt'.ownBlock = some k ∨ k ∈ S := by simpa using hk
    rcases h6 with h6 | h6
    · exact (ho.lt k h6).2
    · have := h.sl k h6
      omega
  · have h6 : vt'.ownBlock = some k ∨ k ∈ S := by simpa using hk
    rcases h6 with h6 | h6
    · rcases hat with h5 | h5
      · exact .inl (h.s3 k (h5.symm.trans h6))
      · rw [h5] at h6
        injection h6 with h6
        exact .inr (by omega)
    · exact .inl h6
end
end Go.Proofs.Ytkjlejkcedemlaa

namespace Go.Proofs.Ytkjlejkcedemlaa
set_option maxRecDepth 100000
set_option linter.unusedVariables false
open Go.ChangeShapes Go.WideShapes Go.ChangeAt Go.RowKit

/-- A reader's own block. -/
def LzBox (g gl most sz wd nx : Nat) (vt : Value) (lc : Int) (vw vo : Value) (en : Bool) (er : Int) (w : World) : Prop :=
  w.heap[g]? = some (.cells #[.pointer (some ⟨gl, 0, none⟩), .int .i64 (most : Nat), .int .i64 (sz : Nat), .int .i64 (wd : Nat), .int .i64 (nx : Nat), vt, .int .i64 lc, vw, vo, .bool en, .int .i64 er] 111 (0, 0))
/-- The codes' own knowledge. -/
structure LzPu (n cl sz : Nat) (s : Cz) (lc : Int) (t : List (Nat × Nat)) : Prop where
  good : GoodC n cl sz s
  tb : TabOk cl s.rows t
  l0 : s.last = none → lc = -1
  l1 : ∀ l, s.last = some l → ∃ c : Nat, lc = (c : Nat) ∧ c < cl + 2 + s.rows.length ∧ rowOf cl s.rows c = some l
/-- An error's number, thrown. -/
def PanE (er : Int) (e : Ending) : Prop := e = .panicked [{ v := .iface 27 (.int .i64 er), recovered := false }]
theorem LzMem.one {g gl : Nat} {A : Option Addr} {n cap : Nat} {b : Nat → Nat} {p : Nat} {vt vw vo : Value} {t : List (Nat × Nat)} {wt o : List Nat} {S : List Nat} {w : World} (h : LzMem g gl A n cap b p vt vw vo t wt o S w) (c B : Nat) (hB : B = w.heap.size) :
    LzMem g gl A n cap b p vt (.slice (some ⟨B, 0, none⟩) 1 1) vo t [c] o S (w.alloc (.cells #[.int .u8 (c : Nat)] 5)) := by
  subst hB
  have hgs := h.gs
  refine (h.below ((Below.refl _ w).alloc (Nat.le_refl _) _)).newWts ⟨_, _, rfl, Nat.le_refl _, by simp [maxLen], (fun e => by cases e), fun _ => ⟨_, 0, rfl, by simp, fun j hj => ?_⟩, fun a hA => ?_⟩
  · have hj : j < 1 := hj
    obtain rfl : j = 0 := by omega
    exact hp_cell (j := 0) (hp_new0 w _) rfl
  · cases hA
    exact ⟨hgs, by simp, (fun e => absurd (h.tab.lt _ e).2 (Nat.lt_irrefl _)), (fun e => absurd (h.out.lt _ e).2 (Nat.lt_irrefl _))⟩
theorem info81 : (Try.prog.info? 123).map (fun i => (i.zero, i.size, i.bytes)) = some (some (.agg #[.int .i64 0, .int .u8 0]), 2, 16) := by kernel_rfl
theorem LzMem.row {g gl : Nat} {A : Option Addr} {n cap : Nat} {b : Nat → Nat} {p : Nat} {vt vw vo : Value} {t : List (Nat × Nat)} {wt o : List Nat} {S : List Nat} {w : World} (h : LzMem g gl A n cap b p vt vw vo t wt o S w) {base gv cv : Nat} {L : List Nat}
    (hw : w.ownsRow base 5 1 (.slice (some ⟨gv, 0, none⟩) L.length cv) L.length (cellsB L)) (hg : g < gv) (h1 : vt.ownBlock ≠ some gv) (h2 : vo.ownBlock ≠ some gv) : LzMem g gl A n cap b p vt (.slice (some ⟨gv, 0, none⟩) L.length cv) vo t L o S w := by
  obtain ⟨A', c', he, q1, q2, q3, q4⟩ := byt_of_row hw
  injection he with e1 e2 e3
  subst e1 e3
  refine h.newWts ⟨_, _, rfl, q1, q2, q3, q4, fun a hA => ?_⟩
  cases hA
  exact ⟨hg, (hw.lt gv rfl).2, h1, h2⟩
section
variable (g gl : Nat) (A : Option Addr) (n cap : Nat) (b : Nat → Nat) (most sz cl : Nat)
set_option maxRecDepth 100000 in
set_option maxHeartbeats 1000000 in
theorem first_yes (hcl : Hid (cl = 2 ^ sz)) (hs : sz ≤ 8) (hc4 : 4 ≤ cl ∧ cl ≤ 256) (p wd nx : Nat) (vt vw vo : Value) (lc : Int) (en : Bool) (er : Int) (t : List (Nat × Nat)) (wt o : List Nat) (S : List Nat) (c : Nat) (hlt : c < cl) (w : World)
    (hb : LzBox g gl most sz wd nx vt lc vw vo en er w) (hm : LzMem g gl A n cap b p vt vw vo t wt o S w) :
    Calls Try.prog 72 #[.pointer (some ⟨g, 0, none⟩), .int .i64 (c : Nat)] w fun e w' => e = .returned (.tuple #[]) ∧ ∃ vw', LzBox g gl most sz wd nx vt (c : Nat) vw' vo en er w' ∧ LzMem g gl A n cap b p vt vw' vo t [c] o S w' ∧ Chg S w w' := by
  have hb' : w.heap[g]? = _ := hb
  have c2 := hp_cell (j := 2) hb' rfl
  have c6 := hp_cell (j := 6) hb' rfl
  have c7 := hp_cell (j := 7) hb' rfl
  have ff := fun j => hp_froz hb' j
  have d1 : decide ((cl : Int) ≤ (c : Int)) = false := by simp; omega
  have w8 : IntKind.u8.wrap (c : Int) = (c : Int) := by rw [IntKind.wrap_u8']; omega
  have hgs := hm.gs
  have hs1 := hm.s1
  have HM := Lib.hid hm
  have HBX := Lib.hid hb'
  clear hb hb' hm
  go_enter Try.func72, Try.ntmps72
  go_wp2_with (first | (go_at_call 69; refine (clear_c g 2 sz cl hs hcl _ c2).mono ?_; rintro e w' ⟨rfl, rfl⟩))
  have hc : Chg [g] w ((w.setCell ⟨g, 7, none⟩ (.slice (some ⟨w.heap.size, 0, none⟩) 1 1)).setCell ⟨g, 6, none⟩ (.int .i64 (c : Nat))) := (((Chg.refl _ w).set (.inl (by simp)) _ _).set (.inl (by simp)) _ _)
  go_end0
  exact ⟨rfl, _, hp_alloc _ (heap_set (W := w.setCell ⟨g, 7, none⟩ (.slice (some ⟨w.heap.size, 0, none⟩) 1 1)) (heap_set HBX.out)), (HM.out.setG hc (by simp)).one c _ (by simp [World.setCell]), (hc.mono (by simpa using hs1)).alloc _⟩
set_option maxRecDepth 100000 in
set_option maxHeartbeats 1000000 in
theorem first_no (hcl : Hid (cl = 2 ^ sz)) (hs : sz ≤ 8) (p wd nx : Nat) (vt vw vo : Value) (lc : Int) (en : Bool) (er : Int) (c : Nat) (hlt : ¬ c < cl) (w : World)
    (hb : LzBox g gl most sz wd nx vt lc vw vo en er w) :
    Calls Try.prog 72 #[.pointer (some ⟨g, 0, none⟩), .int .i64 (c : Nat)] w fun e w' => PanE 4 e ∧ w = w' := by
  have hb' : w.heap[g]? = _ := hb
  have c2 := hp_cell (j := 2) hb' rfl
  have d1 : decide ((cl : Int) ≤ (c : Int)) = true := by simp; omega
  clear hb hb'
  go_enter Try.func72, Try.ntmps72
  go_wp2_with (first | (go_at_call 69; refine (clear_c g 2 sz cl hs hcl _ c2).mono ?_; rintro e w' ⟨rfl, rfl⟩))
  exact ⟨rfl, rfl, rfl⟩
/-- The row that a further code says lies in memory. -/
def RowAt (w : World) (L : List Nat) (s4 : Value) (wx : World) : Prop := wx.ownsRow w.heap.size 5 1 s4 L.length (cellsB L) ∧ Below w.heap.size w wx
set_option maxRecDepth 100000 in
set_option maxHeartbeats 2000000 in
theorem further_yes (hcl : Hid (cl = 2 ^ sz)) (hs : sz ≤ 8) (hc4 : 4 ≤ cl ∧ cl ≤ 256) (p wd nx : Nat) (vt vw vo : Value) (lc : Nat) (en : Bool) (er : Int) (rows : List (List Nat)) (t : List (Nat × Nat)) (wt o : List Nat) (S : List Nat) (c : Nat) (L l0 : List Nat)
    (hnx : Hid (nx = cl + 2 + rows.length)) (hfull : nx ≤ 4096) (hwd : wd ≤ 12) (hT : TabOk cl rows t) (hl0 : rowOf cl rows lc = some l0) (hl0l : l0.length ≤ 4999) (hl0p : 0 < l0.length)
    (hc : (c < nx ∧ rowOf cl rows c = some L) ∨ (c = nx ∧ c < 4096 ∧ L = l0 ++ [l0.headD 0])) (hLl : L.length ≤ 5000) (hLp : 0 < L.length) (h256 : ∀ x ∈ L, x < 256) (hlc : lc < 4096) (w : World)
    (hb : LzBox g gl most sz wd nx vt lc vw vo en er w) (hm : LzMem g gl A n cap b p vt vw vo t wt o S w) :
    Calls Try.prog 73 #[.pointer (some ⟨g, 0, none⟩), .int .i64 (c : Nat)] w fun e w' => e = .returned (.tuple #[]) ∧ ∃ vt' vw' t' S', (nx < 4096 → t' = t ++ [(lc, L.headD 0)]) ∧ (¬ nx < 4096 → t' = t) ∧
      LzBox g gl most sz (growB wd nx) (growN nx) vt' (c : Nat) vw' vo en er w' ∧ LzMem g gl A n cap b p vt' vw' vo t' L o S' w' ∧ More S S' w ∧ Chg S w w' := by
  obtain ⟨i0, hi, hz0, hz1, hz2⟩ := info_parts info8
  have hb' : w.heap[g]? = _ := hb
  have c2 := hp_cell (j := 2) hb' rfl
  have c4 := hp_cell (j := 4) hb' rfl
  have c5 := hp_cell (j := 5) hb' rfl
  have c6 := hp_cell (j := 6) hb' rfl
  have hgs := hm.gs
  have HM := Lib.hid hm
  have HBX := Lib.hid hb'
  have hfl : cl + 2 + rows.length ≤ 4096 := by rw [← hnx.out]; exact hfull
  have HF := Lib.hid hfl
  clear hb hb' hm hfl
  go_enter Try.func73, Try.ntmps73
  go_upto_block 0 with fail
  go_cut [4] (fun s4 wx => RowAt w L s4 wx)
  case first =>
    rcases hc with ⟨hlt, hro⟩ | ⟨rfl, h40, hL⟩
    · go_wp2_with fail
      refine (row_r g sz cl (g + 1) vt rows t hs hc4 hcl HF.out hT c L hro hLl _ c2 c5 HM.out.tab).mono ?_
      rintro e w1 ⟨v, rfl, hown, hB⟩
      have H1 := Lib.hid hown
      have H2 := Lib.hid hB
      clear hown hB
      go_wp2_with fail
      go_meet
      exact ⟨H1.out, H2.out⟩
    · have HL := Lib.hid hL
      clear hL
      go_wp2_with fail
      refine (row_r g sz cl (g + 1) vt rows t hs hc4 hcl HF.out hT lc l0 hl0 (by omega) _ c2 c5 HM.out.tab).mono ?_
      rintro e w1 ⟨v, rfl, hown, hB⟩
      obtain ⟨gv, cv, rfl⟩ := own_some hown (by omega)
      have hz : l0[0]? = some (l0.headD 0) := by
        cases l0 with
        | nil => simp at hl0p
        | cons a q => rfl
      have k0 := own_cell hown hz
      generalize l0.headD 0 = x0 at *
      clear hz
      go_wp2_with (at_builtin; refine wpList_append_own_at _ rfl _ _ 22 rfl w.heap.size 5 i0 _ 1 1 Try.underlying22 hi hz0 hz1 hz2 rfl (by decide) _ _ _ rfl (hown.alloc _) ⟨w1.heap.size, 0, none⟩ 1 1 [.int .u8 (x0 : Nat)] rfl rfl ?_ ?_ ?_ ?_ ?_ ?_)
      · intro j u hj
        cases j with
        | zero => simp at hj; subst hj; exact hp_cell (j := 0) (hp_new0 w1 _) rfl
        | succ j => simp at hj
      · intro u hu; simp at hu; subst hu; rfl
      · unfold maxLen; omega
      · omega
      · have := hB.size; simp; omega
      intro u2 w4 hown' hgrow _ hat
      have hB4 := bel_grown (hB.alloc hB.size (.cells #[.int .u8 (x0 : Nat)] 5)) hgrow (fun r hr => (hown.lt r hr).1) (by have := hB.size; simp; omega)
      rw [← cellsB_snoc, ← HL.out] at hown'
      replace hown' := own_len (show l0.length + 1 = L.length by rw [HL.out, List.length_append]; rfl) hown'
      have H1 := Lib.hid hown'
      have H2 := Lib.hid hB4
      clear hown' hB4 hgrow hat hown hB k0
      go_wp2_with fail
      go_meet
      exact ⟨H1.out, H2.out⟩
  case rest =>
    obtain ⟨hown, hB⟩ := hcut
    obtain ⟨gv, cv, rfl⟩ := own_some hown (by omega)
    have hb1 := hp_below HBX.out hB hgs
    have hm1 := HM.out.below hB
    have hz : L[0]? = some (L.headD 0) := by
      cases L with
      | nil => simp at hLp
      | cons a q => rfl
    have hx0 : L.headD 0 < 256 := by
      cases L with
      | nil => simp at hLp
      | cons a q => exact h256 a (by simp)
    obtain ⟨x0, hx⟩ : ∃ x0, x0 = L.headD 0 := ⟨_, rfl⟩
    rw [← hx] at hz hx0
    have HX := Lib.hid hx
    have hW3 : W3 g 2 sz wd nx wc := ⟨hp_cell (j := 2) hb1 rfl, hp_cell (j := 3) hb1 rfl, hp_cell (j := 4) hb1 rfl, fun j => hp_froz hb1 j⟩
    have HB1 := Lib.hid hB
    have HM1 := Lib.hid hm1
    have HBX1 := Lib.hid hb1
    have HO1 := Lib.hid hown
    have HZ := Lib.hid hz
    clear hx hB hm1 hb1 hown hz c2 c4 c5 c6
    go_wp2_with fail
    refine (grow_w g 2 sz wd nx hwd hfull _ hW3).mono ?_
    rintro e w2 ⟨rfl, hS2⟩
    have hb2 := hS2.blk _ _ HBX1.out
    have hg2 : ∀ k ∈ [g], k < w.heap.size ∨ wc.heap.size ≤ k := fun k hk => by simp at hk; omega
    have ho2 := own_chg' HO1.out hS2.chg hg2
    have hm2 := HM1.out.setG hS2.chg (by simp)
    have hC2 : Chg S w w2 := (Chg.of_below HB1.out).trans (hS2.chg.mono (by simpa using hm2.s1))
    have k0 := own_cell ho2 HZ.out
    have k5 := hp_cell (j := 5) hb2 rfl
    have k6 := hp_cell (j := 6) hb2 rfl
    have k7 := hp_cell (j := 7) hb2 rfl
    have ff := fun j => hp_froz hb2 j
    have hgv := own_far ho2
    have hgv2 := (ho2.lt gv rfl).2
    have hs2 := hS2.chg.size
    have hg2s := hm2.gs
    have HB2 := Lib.hid hb2
    have HM2 := Lib.hid hm2
    have HO2 := Lib.hid ho2
    have HC2 := Lib.hid hC2
    have hwc := HB1.out.size
    clear hS2 hW3 hb2 hm2 ho2 hC2 hg2
    by_cases hlt : nx < 4096
    · have dt : decide (nx < 4096) = true := by simp; omega
      obtain ⟨i1, hi1, hy0, hy1, hy2⟩ := info_parts info81
      have hA := HM2.out.below ((Below.refl _ w2).alloc (Nat.le_refl _) (.cells #[.int .i64 (lc : Nat), .int .u8 (x0 : Nat)] 123)).drew
      have hnw := hp_new0 w2 (.cells #[.int .i64 (lc : Nat), .int .u8 (x0 : Nat)] 123)
      have htl : t.length ≤ 4096 := by rw [hT.len]; have := HF.out; omega
      obtain ⟨vt', w3, hr3, hown3, hgrow3, hat3⟩ := run_app (P := Try.prog) (w := (w2.alloc (.cells #[.int .i64 (lc : Nat), .int .u8 (x0 : Nat)] 123)).drew) (g + 1) 109 109 123 i1 (.agg #[.int .i64 0, .int .u8 0]) 2 16 Try.underlying109 hi1 hy0 hy1 hy2 rfl (by omega) vt t.length (tabCells t) hA.tab
        (some ⟨w2.heap.size, 0, none⟩) 1 1 [.int .i64 (lc : Nat), .int .u8 (x0 : Nat)] (by simp) rfl (fun _ => ⟨_, 0, rfl, fun j u hj => by
          match j, hj with
          | 0, hj => simp at hj; subst hj; exact hp_cell (j := 0) hnw rfl
          | 1, hj => simp at hj; subst hj; exact hp_cell (j := 1) hnw rfl
          | j + 2, hj => simp at hj⟩) (by intro u hu; simp at hu; rcases hu with rfl | rfl <;> rfl) (by unfold maxLen; omega) (by omega) (by simp; omega)
      rw [← tabCells_snoc] at hown3
      replace hown3 := own_len (show t.length + 1 = (t ++ [(lc, x0)]).length by simp) hown3
      obtain ⟨S', hm3, hMo, hC3⟩ := LzMem.newTab (t' := t ++ [(lc, x0)]) (w := (w2.alloc (.cells #[.int .i64 (lc : Nat), .int .u8 (x0 : Nat)] 123)).drew) hA hgrow3 hown3 hat3
      obtain ⟨gt, ct, rfl⟩ := own_some hown3 (by simp)
      have hb3 := (hgrow3.block g (by simp; omega) (fun e => by have := (HM.out.tab.lt _ e.symm).1; omega)).trans (hp_alloc (.cells #[.int .i64 (lc : Nat), .int .u8 (x0 : Nat)] 123) HB2.out)
      have m5 := hp_cell (j := 5) hb3 rfl
      have m6 := hp_cell (j := 6) hb3 rfl
      have m7 := hp_cell (j := 7) hb3 rfl
      have mf := fun j => hp_froz hb3 j
      have hgt : gt ≠ gv := by
        rintro rfl
        rcases hat3 with e | e
        · have h9 : gt < w.heap.size := (HM.out.tab.lt _ e.symm).2
          omega
        · injection e with e
          have h9 : gt = w2.heap.size + 1 := by simpa using e
          omega
      have hC3' : Chg vt.ownBlock.toList w2 w3 := (((Chg.refl vt.ownBlock.toList w2).alloc (.cells #[.int .i64 (lc : Nat), .int .u8 (x0 : Nat)] 123)).drew).trans (Chg.grown hgrow3 (fun r hr => by rw [hr]; simp))
      have ho3 := own_chg HO2.out hC3' (fun k hk hm => by cases hk; have h9 : gv < w.heap.size := (HM.out.tab.lt _ (by simpa using hm)).2; omega)
      have hCx := HC2.out.trans (hC3'.mono (fun k hk => HM.out.s3 k (by simpa using hk)))
      have HCX := Lib.hid hCx
      have HMO := Lib.hid hMo
      have ht3 : w2.heap.size ≤ w3.heap.size := hC3'.size
      have HO3 := Lib.hid ho3
      have HB3 := Lib.hid hb3
      have HR3 := Lib.hid hr3
      rw [show (t ++ [(lc, x0)]).length = t.length + 1 by simp] at hm3
      have HM3 := Lib.hid hm3
      clear hA hr3 hown3 hm3 hat3 hgrow3 hb3 hnw ho3 hC3' hCx hMo hC3
      go_wp2_with fail
      go_region_law (first | (refine step_app (by rfl) _ _ _ (by rfl) _ _ _ _ (by rfl) (by rfl) HR3.out ?_) | fail)
      all_goals
        go_wp2
        go_end0
        have hc3 : Chg [g] w3 (((w3.setCell ⟨g, 5, none⟩ (.slice (some ⟨gt, 0, none⟩) (t.length + 1) ct)).setCell ⟨g, 7, none⟩ (.slice (some ⟨gv, 0, none⟩) L.length cv)).setCell ⟨g, 6, none⟩ (.int .i64 (c : Nat))) := ((((Chg.refl _ w3).set (.inl (by simp)) _ _).set (.inl (by simp)) _ _).set (.inl (by simp)) _ _)
        refine ⟨rfl, .slice (some ⟨gt, 0, none⟩) (t.length + 1) ct, .slice (some ⟨gv, 0, none⟩) L.length cv, t ++ [(lc, x0)], S', (fun _ => by rw [HX.out]), (fun h => absurd hlt h), heap_set (heap_set (heap_set HB3.out)), ?_, ?_, HCX.out.trans (hc3.mono (by simpa using HM.out.s1))⟩
        · refine (HM3.out.setG hc3 (by simp)).row (own_chg' HO3.out hc3 (by simp; omega)) (by omega) (fun e => ?_) (fun e => ?_)
          · injection e with e
            exact hgt e
          · have h9 : gv < w.heap.size := (HM.out.out.lt _ e).2
            omega
        · intro k hk
          rcases HMO.out k hk with h9 | h9
          · exact .inl h9
          · exact .inr (by have h8 : w2.heap.size + 1 ≤ k := by simpa using h9
                           omega)
    · have dt : decide (nx < 4096) = false := by simp; omega
      go_wp2
      go_end0
      have hc3 : Chg [g] w2 ((w2.setCell ⟨g, 7, none⟩ (.slice (some ⟨gv, 0, none⟩) L.length cv)).setCell ⟨g, 6, none⟩ (.int .i64 (c : Nat))) := (((Chg.refl _ w2).set (.inl (by simp)) _ _).set (.inl (by simp)) _ _)
      refine ⟨rfl, vt, _, t, S, (fun h => absurd h hlt), (fun _ => rfl), heap_set (heap_set HB2.out), ?_, More.refl _ _, HC2.out.trans (hc3.mono (by simpa using HM2.out.s1))⟩
      refine (HM2.out.setG hc3 (by simp)).row (own_chg' HO2.out hc3 (by simp; omega)) (by omega) (fun e => ?_) (fun e => ?_)
      · have := (HM.out.tab.lt _ e).2; omega
      · have := (HM.out.out.lt _ e).2; omega
end
end Go.Proofs.Ytkjlejkcedemlaa

namespace Go.Proofs.Ytkjlejkcedemlaa
set_option maxRecDepth 100000
set_option linter.unusedVariables false
open Go.ChangeShapes Go.WideShapes Go.ChangeAt Go.RowKit

theorem elem_u8b : Try.prog.elem 22 = 5 := by kernel_rfl
theorem size_u8b (W : World) : (sizeOf 5).run Try.prog W = .ok 1 W := by kernel_rfl
theorem und_u8b : Try.prog.underlying 22 = some (.slice (Try.prog.elem 22)) := by rw [elem_u8b]; exact Try.underlying22
theorem run_tail1 (A : Option Addr) (n cap : Nat) (hn : 1 ≤ n) (W : World) :
    (Instr.sliceAt 22 (.slice A n cap) (some (.int .i64 1)) none none).run Try.prog W = .ok (.slice (if cap = 1 then A else A.map (·.add 1)) (n - 1) (cap - 1)) W := by
  rw [run_sliceAt_slice _ _ _ _ _ _ und_u8b, run_slice_l W 22 A n cap und_u8b .i64 1 (by omega) (by omega), elem_u8b, size_u8b]
  simp [Result.andThen, sliced]
theorem wts_tail {g : Nat} {vt vo vw : Value} {x : Nat} {r : List Nat} {w : World} {A : Option Addr} {M c : Nat} (he : vw = .slice A M c) (hM : M = (x :: r).length) (h : Wts g vt vo vw (x :: r) w) : Wts g vt vo (.slice (if c = 1 then A else A.map (·.add 1)) (M - 1) (c - 1)) r w := by
  obtain ⟨A', c', h0, h1, h2, hz, hb, ha⟩ := h
  rw [he] at h0
  injection h0 with e1 e2 e3
  subst e1 e3
  have hM1 : M = r.length + 1 := by simpa using hM
  have h1' : r.length + 1 ≤ c := by simpa using h1
  refine ⟨_, c - 1, by rw [hM1]; rfl, by omega, by omega, fun hn => ?_, fun hr => ?_, fun a hA => ?_⟩
  · split at hn
    · omega
    · cases A with
      | none => have := hz rfl; omega
      | some a => cases hn
  · obtain ⟨bk, off, rfl, hlt, hc⟩ := hb (by simp)
    rw [if_neg (by omega)]
    refine ⟨bk, off + 1, rfl, hlt, fun j hj => ?_⟩
    have := hc (j + 1) (by simp; omega)
    rw [show off + 1 + j = off + (j + 1) by omega, this]
    simp [gz]
  · split at hA
    · exact ha a hA
    · cases A with
      | none => cases hA
      | some a0 =>
        simp at hA
        subst hA
        exact ha a0 rfl
theorem slice_if {A : Option Addr} {c m k : Nat} : Value.slice (if c = 1 then A else A.map (·.add 1)) m k = Value.slice (if c = 1 then A else A.map (·.add 1)) m k := rfl
set_option maxRecDepth 100000 in
set_option maxHeartbeats 2000000 in
theorem emit_yes (g gl : Nat) (A : Option Addr) (n cap : Nat) (b : Nat → Nat) (most sz : Nat) (p wd nx : Nat) (vt vw vo : Value) (lc : Int) (er : Int) (t : List (Nat × Nat)) (x : Nat) (r o : List Nat) (S : List Nat) (hmost : most ≤ 1000000) (ho : o.length < most) (w : World)
    (hb : LzBox g gl most sz wd nx vt lc vw vo false er w) (hm : LzMem g gl A n cap b p vt vw vo t (x :: r) o S w) :
    Calls Try.prog 65 #[.pointer (some ⟨g, 0, none⟩)] w fun e w' => e = .returned (.tuple #[]) ∧ ∃ vw' vo' S', LzBox g gl most sz wd nx vt lc vw' vo' false er w' ∧ LzMem g gl A n cap b p vt vw' vo' t r (o ++ [x]) S' w' ∧ More S S' w ∧ Chg S w w' := by
  obtain ⟨i0, hi, hz0, hz1, hz2⟩ := info_parts info8
  obtain ⟨Aw, cw, rfl, q1, q2, q3, q4, q5⟩ := hm.wts
  obtain ⟨_, Ao, co, rfl, s1, s2, _⟩ := Sl.of_own hm.out
  obtain ⟨bw, ow, rfl, hbw, hcw⟩ := q4 (by simp)
  have cx := hcw 0 (by simp)
  have hb' : w.heap[g]? = _ := hb
  obtain ⟨M, hM⟩ : ∃ M, M = (x :: r).length := ⟨_, rfl⟩
  rw [← hM] at hb' hm q1
  have hM1 : 1 ≤ M := by rw [hM]; simp
  have c1 := hp_cell (j := 1) hb' rfl
  have c7 := hp_cell (j := 7) hb' rfl
  have c8 := hp_cell (j := 8) hb' rfl
  have ff := fun j => hp_froz hb' j
  have hgs := hm.gs
  rw [show gz (x :: r) 0 = x from rfl, Nat.add_zero] at cx
  have d1 : decide (most ≤ o.length) = false := by simp; omega
  have HM := Lib.hid hm
  have HBX := Lib.hid hb'
  have HMe := Lib.hid hM
  have HQ5 := Lib.hid (q5 _ rfl)
  clear hb hb' hm hM q4 q5 hcw
  go_enter Try.func65, Try.ntmps65
  go_wp2_with fail
  go_quiet (fail)
  go_wp2_with fail
  obtain ⟨wq, hwq⟩ : ∃ wq, wq = w.drewN nq := ⟨_, rfl⟩
  have hsq : wq.heap.size = w.heap.size := by rw [hwq]; rfl
  have HMq : Hid (LzMem g gl A n cap b p vt (.slice (some ⟨bw, ow, none⟩) M cw) (.slice Ao o.length co) t (x :: r) o S wq) := by rw [hwq]; exact Lib.hid (HM.out.drewN nq)
  have HCq : Hid (Chg S w wq) := by rw [hwq]; exact Lib.hid ((Chg.refl S w).drewN nq)
  have HBq : Hid (LzBox g gl most sz wd nx vt lc (.slice (some ⟨bw, ow, none⟩) M cw) (.slice Ao o.length co) false er wq) := by rw [hwq]; exact Lib.hid HBX.out
  have cxq : wq.cell? ⟨bw, ow, none⟩ = some (.int .u8 (x : Nat)) := by rw [hwq]; exact cx
  rw [← hwq]
  have HSQ := Lib.hid hsq
  clear hwq hsq c1 c7 c8 ff cx HM HBX
  have hgq : g < wq.heap.size := HMq.out.gs
  have c7 := hp_cell (j := 7) HBq.out rfl
  have c8 := hp_cell (j := 8) HBq.out rfl
  have ff := fun j => hp_froz HBq.out j
  have hA := HMq.out.below ((Below.refl _ wq).alloc (Nat.le_refl _) (.cells #[.int .u8 (x : Nat)] 5)).drew
  have hnw := hp_new0 wq (.cells #[.int .u8 (x : Nat)] 5)
  obtain ⟨vo', w3, hr3, hown3, hgrow3, hat3⟩ := run_app (P := Try.prog) (w := (wq.alloc (.cells #[.int .u8 (x : Nat)] 5)).drew) (g + 1) 22 22 5 i0 (.int .u8 0) 1 1 Try.underlying22 hi hz0 hz1 hz2 rfl (by omega) (.slice Ao o.length co) o.length (cellsB o) hA.out
    (some ⟨wq.heap.size, 0, none⟩) 1 1 [.int .u8 (x : Nat)] (by simp) rfl (fun _ => ⟨_, 0, rfl, fun j u hj => by
      match j, hj with
      | 0, hj => simp at hj; subst hj; exact hp_cell (j := 0) hnw rfl
      | j + 1, hj => simp at hj⟩) (by intro u hu; simp at hu; subst hu; rfl) (by unfold maxLen; omega) (by omega) (by have := HMq.out.gs; simp; omega)
  rw [← cellsB_snoc] at hown3
  replace hown3 := own_len (show o.length + 1 = (o ++ [x]).length by simp) hown3
  obtain ⟨S', hm3, hMo, hC3⟩ := LzMem.newOut (o' := o ++ [x]) (w := (wq.alloc (.cells #[.int .u8 (x : Nat)] 5)).drew) hA hgrow3 hown3 hat3
  obtain ⟨gt, ct, rfl⟩ := own_some hown3 (by simp)
  have hb3 := (hgrow3.block g (by have := HMq.out.gs; simp; omega) (fun e => by have := (HMq.out.out.lt _ e.symm).1; omega)).trans (hp_alloc (.cells #[.int .u8 (x : Nat)] 5) HBq.out)
  have m7 := hp_cell (j := 7) hb3 rfl
  have m8 := hp_cell (j := 8) hb3 rfl
  have mf := fun j => hp_froz hb3 j
  rw [show (o ++ [x]).length = o.length + 1 by simp] at hm3
  have HB3 := Lib.hid hb3
  have HR3 := Lib.hid hr3
  have HM3 := Lib.hid hm3
  have hCx : Chg S w w3 := HCq.out.trans ((((Chg.refl S wq).alloc (.cells #[.int .u8 (x : Nat)] 5)).drew).trans hC3)
  have HCX := Lib.hid hCx
  have hwt := wts_tail rfl HMe.out hm3.wts
  have hwt2 := fun (h : cw = 1) => (show Wts g vt (.slice (some ⟨gt, 0, none⟩) (o.length + 1) ct) (.slice (some ⟨bw, ow, none⟩) 0 0) r w3 by simpa [h, show M - 1 = 0 by omega] using hwt)
  have hwt3 := fun (h : ¬ cw = 1) => (show Wts g vt (.slice (some ⟨gt, 0, none⟩) (o.length + 1) ct) (.slice (some ⟨bw, ow + 1, none⟩) (M - 1) (cw - 1)) r w3 by simpa [h, Addr.add_lit] using hwt)
  have H2 := Lib.hid hwt2
  have H3 := Lib.hid hwt3
  have hMO2 : More S S' w := fun k hk => by
    rcases hMo k hk with h9 | h9
    · exact .inl h9
    · refine .inr ?_
      have h8 : wq.heap.size + 1 ≤ k := by simpa using h9
      have := HSQ.out
      omega
  have HMO := Lib.hid hMO2
  clear hA hr3 hown3 hm3 hMo hC3 hat3 hgrow3 hb3 hnw hCx hwt hwt2 hwt3 hMO2
  by_cases hcw : cw = 1
  · have H4 := Lib.hid (H2.out hcw)
    subst hcw
    clear H2 H3
    go_wp2_with fail
    go_region_law (first | (refine step_app (by rfl) _ _ _ (by rfl) _ _ _ _ (by rfl) (by rfl) HR3.out ?_) | fail)
    all_goals
      go_wp2
      refine bodyPost_ret (v := .tuple #[]) (by simp [results, Try.results65, go_sem]) rfl ?_
      have hc3 : Chg [g] w3 ((w3.setCell ⟨g, 8, none⟩ (.slice (some ⟨gt, 0, none⟩) (o.length + 1) ct)).setCell ⟨g, 7, none⟩ (.slice (some ⟨bw, ow, none⟩) 0 0)) := (((Chg.refl _ w3).set (.inl (by simp)) _ _).set (.inl (by simp)) _ _)
      exact ⟨rfl, _, _, S', heap_set (heap_set HB3.out), (HM3.out.newWts H4.out).setG hc3 (by simp), HMO.out, HCX.out.trans (hc3.mono (by simpa using HMq.out.s1))⟩
  · have H4 := Lib.hid (H3.out hcw)
    clear H2 H3
    go_wp2_with fail
    go_region_law (first | (refine step_app (by rfl) _ _ _ (by rfl) _ _ _ _ (by rfl) (by rfl) HR3.out ?_) | fail)
    all_goals
      go_wp2
      refine bodyPost_ret (v := .tuple #[]) (by simp [results, Try.results65, go_sem]) rfl ?_
      have hc3 : Chg [g] w3 ((w3.setCell ⟨g, 8, none⟩ (.slice (some ⟨gt, 0, none⟩) (o.length + 1) ct)).setCell ⟨g, 7, none⟩ (.slice (some ⟨bw, ow + 1, none⟩) (M - 1) (cw - 1))) := (((Chg.refl _ w3).set (.inl (by simp)) _ _).set (.inl (by simp)) _ _)
      exact ⟨rfl, _, _, S', heap_set (heap_set HB3.out), (HM3.out.newWts H4.out).setG hc3 (by simp), HMO.out, HCX.out.trans (hc3.mono (by simpa using HMq.out.s1))⟩
end Go.Proofs.Ytkjlejkcedemlaa
