/- A reader of GIF's codes: the row of a number. -/
import Derived.Test.YtioghgnngdcicaaLzW
import Derived.Deep.DeepCutAuto
import Derived.RegionTactic
import Derived.ChangeAlike
namespace Go.Proofs.Ytioghgnngdcicaa
set_option linter.unusedVariables false
open Go.ChangeShapes Go.WideShapes Go.ChangeAt Go.RowKit

/-- The row that a number stands for. -/
def rowOf (cl : Nat) (rows : List (List Nat)) (c : Nat) : Option (List Nat) := if c < cl then some [c] else if c < cl + 2 then none else rows[c - cl - 2]?
/-- The table says the rows. -/
structure TabOk (cl : Nat) (rows : List (List Nat)) (t : List (Nat × Nat)) : Prop where
  len : t.length = rows.length
  row : ∀ i r, rows[i]? = some r → ∃ a v pre, t[i]? = some (a, v) ∧ a < cl + 2 + i ∧ v < 256 ∧ rowOf cl rows a = some pre ∧ r = pre ++ [v]
def tabCells (t : List (Nat × Nat)) : List Value := t.flatMap fun x => [.int .i64 (x.1 : Nat), .int .u8 (x.2 : Nat)]
theorem tabCells_len (t : List (Nat × Nat)) : (tabCells t).length = t.length * 2 := by
  induction t with
  | nil => rfl
  | cons x t ih =>
    show (.int .i64 (x.1 : Nat) :: .int .u8 (x.2 : Nat) :: tabCells t).length = _
    simp [ih]
    omega
theorem tabCells_get (t : List (Nat × Nat)) (i a v : Nat) (h : t[i]? = some (a, v)) : (tabCells t)[i * 2]? = some (.int .i64 (a : Nat)) ∧ (tabCells t)[i * 2 + 1]? = some (.int .u8 (v : Nat)) := by
  induction t generalizing i with
  | nil => simp at h
  | cons x t ih =>
    show (.int .i64 (x.1 : Nat) :: .int .u8 (x.2 : Nat) :: tabCells t)[i * 2]? = _ ∧ (.int .i64 (x.1 : Nat) :: .int .u8 (x.2 : Nat) :: tabCells t)[i * 2 + 1]? = _
    cases i with
    | zero => simp at h; subst h; exact ⟨rfl, rfl⟩
    | succ i =>
      have := ih i (by simpa using h)
      rw [show (i + 1) * 2 = i * 2 + 1 + 1 by omega]
      simpa using this
theorem tabCells_snoc (t : List (Nat × Nat)) (a v : Nat) : tabCells (t ++ [(a, v)]) = tabCells t ++ [.int .i64 (a : Nat), .int .u8 (v : Nat)] := by simp [tabCells]
theorem clear_c (g o sz cl : Nat) (hs : sz ≤ 8) (hcl : Hid (cl = 2 ^ sz)) (w : World) (h : w.cell? ⟨g, o, none⟩ = some (.int .i64 (sz : Nat))) :
    Calls Try.prog 40 #[.pointer (some ⟨g, o, none⟩)] w fun e w' => e = .returned (.int .i64 ((cl : Nat) : Int)) ∧ w = w' := by
  rw [hcl.out]
  exact clear_w g o sz hs w h
theorem ca_alloc {w : World} {p : Addr} {v : Value} (o : Obj) (h : w.cell? p = some v) : (w.alloc o).drew.cell? p = some v := by
  show (w.alloc o).cell? p = some v
  rw [World.cell?_alloc_lt _ _ _ (lt_of_cell h)]
  exact h
theorem own_d2 {w : World} {base : Nat} {e : TypeId} {size n : Nat} {v : Value} {xs : List Value} (o1 o2 : Obj) (h : w.ownsRow base e size v n xs) : ((w.alloc o1).alloc o2).drew.ownsRow base e size v n xs := (h.alloc o1).alloc o2
theorem cell_d2 (w : World) (o1 : Obj) (c : Value) (t : TypeId) {x : Value} (h : c = x) : ((w.alloc o1).alloc (.cells #[c] t)).drew.cell? (Addr.add ⟨w.heap.size + 1, 0, none⟩ 0) = some x := by
  subst h
  have := hp_new0 (w.alloc o1) (.cells #[c] t)
  rw [World.size_alloc] at this
  exact hp_cell (W := (w.alloc o1).alloc (.cells #[c] t)) this rfl
theorem bel_d2 (w : World) (o1 o2 : Obj) : Below w.heap.size w ((w.alloc o1).alloc o2).drew := (((Below.refl _ w).alloc (Nat.le_refl _) o1).alloc (by simp) o2).drew
theorem hp_d2 (w : World) (o1 o2 : Obj) : ((w.alloc o1).alloc o2).drew.heap[w.heap.size]? = some o1 := hp_alloc o2 (hp_new0 w o1)
theorem bel_d3 {w wr : World} (h : Below w.heap.size w wr) (o1 o2 : Obj) : Below w.heap.size w ((wr.alloc o1).alloc o2).drew := ((h.alloc h.size o1).alloc (by have := h.size; simp; omega) o2).drew
theorem bel_grown {B : Nat} {w W W' : World} {row : Option Nat} (h : Below B w W) (hg : W.grownBy W' row) (hr : ∀ r, row = some r → B ≤ r) (hs : B ≤ W.heap.size) : Below B w W' :=
  h.trans ⟨hg.os, hg.tape, hg.output, hg.size, fun k hk => hg.block k (by omega) (fun e => by have := hr k e.symm; omega)⟩
theorem own_len {w : World} {base : Nat} {e : TypeId} {size n m : Nat} {v : Value} {xs : List Value} (h : n = m) (ho : w.ownsRow base e size v n xs) : w.ownsRow base e size v m xs := by subst h; exact ho
/-- The row, i pairs of it changed. -/
def revAt (M : List Nat) (i : Nat) : List Nat := (List.range M.length).map fun j => M.getD (if j < i ∨ M.length ≤ j + i then M.length - 1 - j else j) 0
theorem revAt_len (M : List Nat) (i : Nat) : (revAt M i).length = M.length := by simp [revAt]
theorem revAt_get (M : List Nat) (i j : Nat) (h : j < M.length) : (revAt M i)[j]? = some (M.getD (if j < i ∨ M.length ≤ j + i then M.length - 1 - j else j) 0) := by simp [revAt, h]
theorem revAt_zero (M : List Nat) : revAt M 0 = M := by
  apply List.ext_getElem?
  intro j
  by_cases h : j < M.length
  · rw [revAt_get M 0 j h, if_neg (by omega), List.getElem?_eq_getElem h]
    simp [h]
  · rw [List.getElem?_eq_none (by rw [revAt_len]; omega), List.getElem?_eq_none (by omega)]
theorem revAt_end (M : List Nat) (i : Nat) (h : M.length ≤ 2 * i + 1) : revAt M i = M.reverse := by
  apply List.ext_getElem?
  intro j
  by_cases hj : j < M.length
  · rw [revAt_get M i j hj, List.getElem?_reverse hj]
    by_cases h2 : j < i ∨ M.length ≤ j + i
    · rw [if_pos h2, List.getElem?_eq_getElem (by omega)]
      simp [show M.length - 1 - j < M.length by omega]
    · rw [if_neg h2, show M.length - 1 - j = j by omega, List.getElem?_eq_getElem hj]
      simp [hj]
  · rw [List.getElem?_eq_none (by rw [revAt_len]; omega), List.getElem?_eq_none (by simp; omega)]
theorem revAt_i (M : List Nat) (i k : Nat) (h : i + k + 1 = M.length) (hik : i < k) : (revAt M i)[i]? = some (M.getD i 0) := by rw [revAt_get M i i (by omega), if_neg (by omega)]
theorem revAt_k (M : List Nat) (i k : Nat) (h : i + k + 1 = M.length) (hik : i < k) : (revAt M i)[k]? = some (M.getD k 0) := by rw [revAt_get M i k (by omega), if_neg (by omega)]
theorem revAt_step (M : List Nat) (i k : Nat) (h : i + k + 1 = M.length) (hik : i < k) : ((revAt M i).set i (M.getD k 0)).set k (M.getD i 0) = revAt M (i + 1) := by
  apply List.ext_getElem?
  intro j
  by_cases hj : j < M.length
  · rw [revAt_get M (i + 1) j hj]
    by_cases h1 : j = k
    · subst h1
      rw [List.getElem?_set_self (by simp [revAt_len]; omega), if_pos (by omega)]
      congr 2
      omega
    · rw [List.getElem?_set_ne (Ne.symm h1)]
      by_cases h2 : j = i
      · subst h2
        rw [List.getElem?_set_self (by simp [revAt_len]; omega), if_pos (by omega)]
        congr 2
        omega
      · rw [List.getElem?_set_ne (Ne.symm h2), revAt_get M i j hj]
        by_cases h3 : j < i ∨ M.length ≤ j + i
        · rw [if_pos h3, if_pos (by omega)]
        · rw [if_neg h3, if_neg (by omega)]
  · rw [List.getElem?_eq_none (by simp [revAt_len]; omega), List.getElem?_eq_none (by rw [revAt_len]; omega)]
theorem own_some {w : World} {base : Nat} {e : TypeId} {size n : Nat} {v : Value} {xs : List Value} (h : w.ownsRow base e size v n xs) (hn : 0 < n * size) : ∃ g cap, v = .slice (some ⟨g, 0, none⟩) n cap := by
  obtain ⟨hl, hf⟩ := h
  rcases hf with ⟨rfl, h0⟩ | ⟨g, cap, cur, rfl, _⟩
  · exfalso; subst h0; simp at hn
  · exact ⟨g, cap, rfl⟩
theorem own_cell {w : World} {base : Nat} {e : TypeId} {n cap g j x : Nat} {l : List Nat} (h : w.ownsRow base e 1 (.slice (some ⟨g, 0, none⟩) n cap) n (cellsB l)) (hj : l[j]? = some x) : w.cell? ⟨g, j, none⟩ = some (.int .u8 (x : Nat)) := by
  obtain ⟨hl, hf⟩ := h
  have hjl := (List.getElem?_eq_some_iff.1 hj).1
  rw [cellsB_len] at hl
  rcases hf with ⟨h0, _⟩ | ⟨g', cap', cur, he, hB, hg, hnc, hcm, hcs, ht⟩
  · cases h0
  · cases he
    refine hp_cell hg ?_
    have h1 := congrArg (fun l => l[j]?) ht
    simp only [List.getElem?_take, show j < n * 1 by omega, if_true] at h1
    rw [← Array.getElem?_toList, h1]
    simp [cellsB, hj]
theorem own_froz {w : World} {base : Nat} {e : TypeId} {n cap g size : Nat} {xs : List Value} (h : w.ownsRow base e size (.slice (some ⟨g, 0, none⟩) n cap) n xs) : ∀ j, w.frozen? ⟨g, j, none⟩ = false := by
  obtain ⟨hl, hf⟩ := h
  rcases hf with ⟨h0, _⟩ | ⟨g', cap', cur, he, hB, hg, hnc, hcm, hcs, ht⟩
  · cases h0
  · cases he
    exact fun j => hp_froz hg j
theorem own_set {w : World} {base : Nat} {e : TypeId} {n cap g j x : Nat} {l : List Nat} (h : w.ownsRow base e 1 (.slice (some ⟨g, 0, none⟩) n cap) n (cellsB l)) : (w.setCell ⟨g, j, none⟩ (.int .u8 (x : Nat))).ownsRow base e 1 (.slice (some ⟨g, 0, none⟩) n cap) n (cellsB (l.set j x)) := by
  obtain ⟨hl, hf⟩ := h
  rw [cellsB_len] at hl
  refine ⟨by simp [cellsB, hl], ?_⟩
  rcases hf with ⟨h0, _⟩ | ⟨g', cap', cur, he, hB, hg, hnc, hcm, hcs, ht⟩
  · cases h0
  · cases he
    refine .inr ⟨g, cap, _, rfl, hB, heap_set hg, hnc, hcm, by simp [hcs], ?_⟩
    rw [Array.toList_setIfInBounds, List.take_set, ht]
    unfold cellsB
    rw [List.map_set]
theorem own_far {w : World} {base : Nat} {e : TypeId} {n cap g size : Nat} {xs : List Value} (h : w.ownsRow base e size (.slice (some ⟨g, 0, none⟩) n cap) n xs) : base ≤ g := (h.lt g rfl).1
theorem clear_s (g o sz cl : Nat) (hs : sz ≤ 8) (hcl : Hid (cl = 2 ^ sz)) (w : World) (h : w.cell? ⟨g, o, none⟩ = some (.int .i64 (sz : Nat))) :
    Calls Try.prog 40 #[.pointer (some ⟨g, o, none⟩)] w fun e w' => e = .returned (.int .i64 ((cl : Nat) : Int)) ∧ w' = w :=
  (clear_c g o sz cl hs hcl w h).mono fun _ _ ⟨h1, h2⟩ => ⟨h1, h2.symm⟩
set_option maxRecDepth 100000 in
set_option maxHeartbeats 1000000 in
theorem row_r (g sz cl base : Nat) (vt : Value) (rows : List (List Nat)) (t : List (Nat × Nat)) (hs : sz ≤ 8) (hc4 : 4 ≤ cl ∧ cl ≤ 256) (hcl : Hid (cl = 2 ^ sz)) (hfull : cl + 2 + rows.length ≤ 4096) (hT : TabOk cl rows t)
    (code : Nat) (L : List Nat) (hL : rowOf cl rows code = some L) (hlen : L.length ≤ 5000) (w : World)
    (h2 : w.cell? ⟨g, 2, none⟩ = some (.int .i64 (sz : Nat))) (h5 : w.cell? ⟨g, 5, none⟩ = some vt) (hown : w.ownsRow base 81 2 vt t.length (tabCells t)) :
    Calls Try.prog 52 #[.pointer (some ⟨g, 0, none⟩), .int .i64 (code : Nat)] w fun e w' => ∃ v, e = .returned v ∧ w'.ownsRow w.heap.size 5 1 v L.length (cellsB L) ∧ Below w.heap.size w w' := by
  obtain ⟨i0, hi, hz0, hz1, hz2⟩ := info_parts info8
  have HL := Lib.hid hL
  clear hL
  go_enter Try.func52, Try.ntmps52
  go_wp2_with fail
  go_loopw [1, 5] (fun s1 s5 wr => ∃ (c : Nat) (pre acc : List Nat), s1 = .int .i64 (c : Nat) ∧ Hid (rowOf cl rows c = some pre) ∧ Hid (L = pre ++ acc.reverse) ∧ wr.ownsRow w.heap.size 5 1 s5 acc.length (cellsB acc) ∧ Below w.heap.size w wr ∧ (∀ x ∈ acc, x < 256)) (fun s1 _ _ => (intOf s1).toNat)
  case atStart => exact ⟨code, L, [], rfl, HL, Lib.hid (by simp), World.ownsRow_nil _ _ _ _, Below.refl _ _, by simp⟩
  case round =>
    obtain ⟨c, pre, acc, rfl, hp, hLe, hac, hB, h256⟩ := hrel
    have hb2 : w.heap.size ≤ w.heap.size := Nat.le_refl _
    have k2 : wr.cell? ⟨g, 2, none⟩ = some (.int .i64 (sz : Nat)) := (hB.cell (p := ⟨g, 2, none⟩) (lt_of_cell h2)).trans h2
    have k5 : wr.cell? ⟨g, 5, none⟩ = some vt := (hB.cell (p := ⟨g, 5, none⟩) (lt_of_cell h5)).trans h5
    have hal : acc.length ≤ 5000 := by
      have := congrArg List.length hLe.out
      simp at this
      omega
    by_cases hlt : c < cl
    · have hpe : pre = [c] := by
        have := hp.out
        unfold rowOf at this
        rw [if_pos hlt] at this
        injection this with this
        exact this.symm
      have c256 : c < 256 := by omega
      have d1 : decide ((cl : Int) ≤ (c : Int)) = false := by simp; omega
      have w8 : IntKind.u8.wrap (c : Int) = (c : Int) := by rw [IntKind.wrap_u8']; omega
      have hLr : cellsB acc ++ [.int .u8 ((c : Nat) : Int)] = cellsB L.reverse := by rw [← cellsB_snoc, hLe.out, hpe]; simp
      have hLl : acc.length + 1 = L.length := by rw [hLe.out, hpe]; simp
      have HLR := Lib.hid hLr
      have HLL := Lib.hid hLl
      clear hLr hLl hpe hp hLe HL
      go_wp2_with (first | (go_at_call 40; refine (clear_c g 2 sz cl hs hcl _ k2).mono ?_; rintro e w' ⟨rfl, rfl⟩) | (at_builtin; refine wpList_append_own_at _ rfl _ _ 22 rfl w.heap.size 5 i0 _ 1 1 Try.underlying22 hi hz0 hz1 hz2 rfl (by decide) _ _ _ rfl (hac.alloc _) ⟨wr.heap.size, 0, none⟩ 1 1 [.int .u8 (c : Nat)] rfl rfl ?_ ?_ ?_ ?_ ?_ ?_))
      · intro j u hj
        cases j with
        | zero => simp at hj; subst hj; exact hp_cell (j := 0) (hp_new0 wr _) rfl
        | succ j => simp at hj
      · intro u hu; simp at hu; subst hu; rfl
      · unfold maxLen; omega
      · omega
      · have := hB.size; simp; omega
      intro u2 w4 hown' hgrow _ hat
      have hB4 := bel_grown (hB.alloc hB.size (.cells #[.int .u8 (c : Nat)] 5)) hgrow (fun r hr => (hac.lt r hr).1) (by have := hB.size; simp; omega)
      rw [HLR.out] at hown'
      replace hown' := own_len HLL.out hown'
      obtain ⟨gb, cu, rfl⟩ := own_some hown' (by have := HLL.out; omega)
      have HO := Lib.hid hown'
      have HB4 := Lib.hid hB4
      have hL1 : 0 < L.length := by have := HLL.out; omega
      clear hown' hB4 hgrow hat hac hB k2 k5 h2 h5
      obtain ⟨N, hN⟩ : ∃ N, N = L.length := ⟨_, rfl⟩
      rw [← hN] at hL1 hlen ⊢
      have HN := Lib.hid hN
      clear hN
      have hN0 : (0 : Int) + (((N : Nat) : Int) - 1) + 1 = N := by omega
      have HN0 := Lib.hid hN0
      clear hN0
      go_wp2_with fail
      go_loopw [7, 8] (fun s7 s8 wx => ∃ (i : Nat) (kk : Int), s7 = .int .i64 (i : Nat) ∧ s8 = .int .i64 kk ∧ 2 * i ≤ N ∧ Hid ((i : Int) + kk + 1 = N) ∧ wx.ownsRow w.heap.size 5 1 (.slice (some ⟨gb, 0, none⟩) N cu) N (cellsB (revAt L.reverse i)) ∧ Below w.heap.size w wx) (fun s7 _ _ => N - (intOf s7).toNat)
      case atStart => exact ⟨0, _, rfl, rfl, by omega, HN0, by rw [revAt_zero, HN.out]; exact HO.out, HB4.out⟩
      case round =>
        obtain ⟨i, kk, rfl, rfl, hi2, hik, ho, hB⟩ := hrel
        by_cases hlt : (i : Int) < kk
        · obtain ⟨k, rfl⟩ := Int.eq_ofNat_of_zero_le (show 0 ≤ kk by omega)
          have hk := hik.out
          have hml : L.reverse.length = N := by simp [← HN.out]
          have hgi := revAt_i L.reverse i k (by omega) (by omega)
          have hgk := revAt_k L.reverse i k (by omega) (by omega)
          have hst := revAt_step L.reverse i k (by omega) (by omega)
          have ci := own_cell ho hgi
          have ck := own_cell ho hgk
          have ff := own_froz ho
          have g1 : (i : Int) < (N : Int) := by omega
          have g2 : (k : Int) < (N : Int) := by omega
          have g3 : i < N := by omega
          have g4 : k < N := by omega
          have g5 : i < k := by omega
          have HK := Lib.hid hk
          have HS := Lib.hid hst
          have HO2 := Lib.hid ho
          have HB2 := Lib.hid hB
          clear hk hst ho hB hml hgi hgk
          generalize L.reverse.getD i 0 = xi at *
          generalize L.reverse.getD k 0 = xk at *
          go_wp2_with fail
          go_region
          all_goals
            go_wp2
            go_roundw
            case rel => exact ⟨i + 1, (k : Int) - 1, by go_num, rfl, by have := HK.out; omega, Lib.hid (by have := HK.out; omega), by rw [← HS.out]; exact own_set (own_set HO2.out), ((HB2.out.setCell (p := ⟨gb, i, none⟩) (own_far HO2.out) _).setCell (p := ⟨gb, k, none⟩) (own_far HO2.out) _).drew⟩
            case measure => simp [intOf]; omega
        · have hk := hik.out
          have hre := revAt_end L.reverse i (by simp; have := HN.out; omega)
          rw [hre, List.reverse_reverse] at ho
          have HO2 := Lib.hid ho
          clear ho hre hk
          go_wp2_with fail
          go_ret
          exact ⟨_, rfl, own_len HN.out HO2.out, hB⟩
    · obtain ⟨i, hci⟩ : ∃ i, c = cl + 2 + i := by
        have := hp.out
        unfold rowOf at this
        rw [if_neg hlt] at this
        by_cases h9 : c < cl + 2
        · rw [if_pos h9] at this; cases this
        · exact ⟨c - cl - 2, by omega⟩
      have hri : rows[i]? = some pre := by
        have := hp.out
        unfold rowOf at this
        rw [if_neg hlt, if_neg (by omega)] at this
        rw [← this]
        congr 1
        omega
      have hil : i < rows.length := (List.getElem?_eq_some_iff.1 hri).1
      obtain ⟨a, v, pre2, ht, ha, hv, hro, hpe⟩ := hT.row i pre hri
      have htl : i < t.length := by rw [hT.len]; exact hil
      obtain ⟨q1, q2⟩ := tabCells_get t i a v ht
      have hS := Sl.of_own hown
      obtain ⟨_, At, capt, rfl, s1, s2, s3⟩ := hS
      obtain ⟨bt, off, rfl, hbt, hct⟩ := s3 (by omega)
      have q3 : wr.cell? ⟨bt, off + i * 2, none⟩ = some (.int .i64 (a : Nat)) := ((hB.cell (p := ⟨bt, off + i * 2, none⟩) hbt).trans (hct (i * 2) (by omega))).trans q1
      have q4 : wr.cell? ⟨bt, off + i * 2 + 1, none⟩ = some (.int .u8 (v : Nat)) := ((hB.cell (p := ⟨bt, off + (i * 2 + 1), none⟩) hbt).trans (hct (i * 2 + 1) (by omega))).trans q2
      have HE := Lib.hid hpe
      have HR := Lib.hid hro
      have HT := Lib.hid ht
      clear hpe hro ht hri q1 q2 hct hown s3 
      have d1 : decide ((cl : Int) ≤ (c : Int)) = true := by simp; omega
      have g1 : c < 4096 := by omega
      obtain ⟨m, hm⟩ : ∃ m, c = cl + m := ⟨2 + i, by omega⟩
      have e1 : (c : Int) - (cl : Int) = (m : Int) := by omega
      have e2 : IntKind.i64.wrap ((c : Int) - (cl : Int)) = (m : Int) := (IntWalk.i64_in _ (by omega)).trans e1
      have e3 : (m : Int) - 2 = (i : Int) := by omega
      have e4 : IntKind.i64.wrap ((m : Int) - 2) = (i : Int) := (IntWalk.i64_in _ (by omega)).trans e3
      have e5 : IntKind.i64.wrap (m : Int) = (m : Int) := i64_small m (by omega)
      have e6 : IntKind.i64.wrap (i : Int) = (i : Int) := i64_small i (by omega)
      have b3 : i < t.length := htl
      have b4 : (i : Int) < (t.length : Int) := by omega
      have HCI := Lib.hid hci
      clear hci hm
      go_wp2_with (go_at_call 40; refine (clear_c g 2 sz cl hs hcl _ k2).mono ?_; rintro e w' ⟨rfl, rfl⟩)
      have K0 : wr.cell? ⟨g, 2, none⟩ = some (.int .i64 (sz : Nat)) ∧ wr.cell? ⟨g, 5, none⟩ = some (.slice (some ⟨bt, off, none⟩) t.length capt) ∧ wr.cell? ⟨bt, off + i * 2, none⟩ = some (.int .i64 (a : Nat)) ∧ wr.cell? ⟨bt, off + i * 2 + 1, none⟩ = some (.int .u8 (v : Nat)) := ⟨k2, k5, q3, q4⟩
      have K1 : ∀ o, (wr.alloc o).drew.cell? ⟨g, 2, none⟩ = some (.int .i64 (sz : Nat)) ∧ (wr.alloc o).drew.cell? ⟨g, 5, none⟩ = some (.slice (some ⟨bt, off, none⟩) t.length capt) ∧ (wr.alloc o).drew.cell? ⟨bt, off + i * 2, none⟩ = some (.int .i64 (a : Nat)) ∧ (wr.alloc o).drew.cell? ⟨bt, off + i * 2 + 1, none⟩ = some (.int .u8 (v : Nat)) := fun o =>
        ⟨ca_alloc o k2, ca_alloc o k5, ca_alloc o q3, ca_alloc o q4⟩
      have HK1 := Lib.hid K1
      clear K1
      go_region_held3 (fun w' => w'.cell? ⟨g, 2, none⟩ = some (.int .i64 (sz : Nat)) ∧ w'.cell? ⟨g, 5, none⟩ = some (.slice (some ⟨bt, off, none⟩) t.length capt) ∧ w'.cell? ⟨bt, off + i * 2, none⟩ = some (.int .i64 (a : Nat)) ∧ w'.cell? ⟨bt, off + i * 2 + 1, none⟩ = some (.int .u8 (v : Nat)))
        (first | with_reducible exact K0 | with_reducible exact HK1.out _ | go_keep)
        (first | (go_at_call 40; refine (clear_c g 2 sz cl hs hcl _ (by first | exact k2 | exact ca_alloc _ k2)).mono ?_; rintro e w' ⟨rfl, rfl⟩))
      all_goals
        go_wp2_with (at_builtin; refine wpList_append_own_at _ rfl _ _ 22 rfl w.heap.size 5 i0 _ 1 1 Try.underlying22 hi hz0 hz1 hz2 rfl (by decide) _ _ _ rfl (own_d2 _ _ hac) ⟨wr.heap.size + 1, 0, none⟩ 1 1 [.int .u8 (v : Nat)] rfl rfl ?_ ?_ ?_ ?_ ?_ ?_)
        · intro j u hj
          cases j with
          | zero => simp at hj; subst hj; exact (cell_d2 wr _ _ _ rfl)
          | succ j => simp at hj
        · intro u hu; simp at hu; subst hu; rfl
        · unfold maxLen; omega
        · omega
        · have := hB.size; simp; omega
        intro u2 w4 hown' hgrow _ hat
        have hB4 := bel_grown (bel_d3 hB (.cells #[.int .i64 (a : Nat), .int .u8 (v : Nat)] 81) (.cells #[.int .u8 (v : Nat)] 5)) hgrow (fun r hr => (hac.lt r hr).1) (by have := hB.size; simp; omega)
        have hbk : w4.heap[wr.heap.size]? = some (.cells #[.int .i64 (a : Nat), .int .u8 (v : Nat)] 81 (0, 0)) := (hgrow.block wr.heap.size (by simp; omega) (fun e => by have := (hac.lt _ e.symm).2; omega)).trans (hp_d2 wr _ _)
        have c0 := hp_cell (j := 0) hbk rfl
        rw [← cellsB_snoc] at hown'
        have HO := Lib.hid hown'
        have HB4 := Lib.hid hB4
        clear hown' hB4 hgrow hat hac hB k2 k5 q3 q4
        go_wp2
        go_roundw
        case rel => exact ⟨a, pre2, acc ++ [v], rfl, HR, Lib.hid (by rw [hLe.out, HE.out]; simp), own_len (by simp) HO.out, HB4.out, fun x hx => by rcases List.mem_append.1 hx with hx | hx; exact h256 x hx; rw [List.mem_singleton.1 hx]; exact hv⟩
        case measure => have := HCI.out; simp [intOf]; omega
end Go.Proofs.Ytioghgnngdcicaa
