/- LzwBack: the walk. The reference's writer of bits. What the reference's writer of bits has written. The plain part of PaletteBack and PaletteOrder. The plainest codes: values as they are, Clears between: the plain law. The reference's plainest writer of GIF's codes. gifwrite: numbers and the table of colours. -/
import Derived.Test.YtkjlejkcedemlaaM10
import Derived.StillTailTactics
import Derived.BigRegion
namespace Go.Proofs.Ytkjlejkcedemlaa
set_option maxRecDepth 100000
set_option linter.unusedVariables false
open Go.ChangeShapes Go.WideShapes Go.ChangeAt Go.RowKit

/-- The row that is made of b again and again. -/
def AllR (w0 : World) (l : List Nat) (s7 s8 : Value) (k : Nat) (w : World) : Prop := s8 = .int .i64 (k : Nat) ∧ w.ownsRow w0.heap.size 5 1 s7 (rep k l).length (cellsB (rep k l)) ∧ Below w0.heap.size w0 w ∧ (rep k l).length ≤ 30400
/-- What the first loop leaves. -/
def AllE (w0 : World) (l : List Nat) (s7 : Value) (w : World) : Prop := ∃ (all : List Nat) (Ar : Option Addr) (cr : Nat), s7 = .slice Ar all.length cr ∧ all.length ≤ cr ∧ cr ≤ maxLen ∧ (Ar = none → cr = 0) ∧ Byt w Ar all.length (gz all) ∧ Below w0.heap.size w0 w ∧ all.length ≤ 30400 ∧ ∃ k, 0 < k ∧ all = rep k l
theorem allE_of {w0 : World} {l : List Nat} {s7 s8 : Value} {k : Nat} {w : World} (h : AllR w0 l s7 s8 k w) (hk : 0 < k) : AllE w0 l s7 w := by
  obtain ⟨_, hown, hB, hlen⟩ := h
  obtain ⟨A, c, rfl, q1, q2, q3, q4⟩ := byt_of_row (o := rep k l) hown
  exact ⟨rep k l, A, c, rfl, q1, q2, q3, q4, hB, hlen, k, hk, rfl⟩
/-- Do so many bytes go into codes of such a size? -/
def fitsZ (size : Int) (n : Nat) (b : Nat → Nat) : Bool := decide ((2 ≤ size ∧ size ≤ 8) ∧ ∀ i, i < n → b i < 2 ^ size.toNat)
theorem fitsZ_zero (size : Int) (b : Nat → Nat) : fitsZ size 0 b = decide (2 ≤ size ∧ size ≤ 8) := by
  unfold fitsZ
  simp
theorem fitsZ_step {size : Int} {i : Nat} {b : Nat → Nat} (h : fitsZ size i b = true) : fitsZ size (i + 1) b = decide (b i < 2 ^ size.toNat) := by
  unfold fitsZ at h ⊢
  have h' := of_decide_eq_true h
  by_cases hb : b i < 2 ^ size.toNat
  · rw [decide_eq_true hb]
    refine decide_eq_true ⟨h'.1, fun j hj => ?_⟩
    by_cases e : j = i
    · subst e; exact hb
    · exact h'.2 j (by omega)
  · rw [decide_eq_false hb]
    exact decide_eq_false fun ⟨_, h2⟩ => hb (h2 i (by omega))
theorem fitsZ_no {size : Int} {i n : Nat} {b : Nat → Nat} (hi : i ≤ n) (h : fitsZ size i b = false) : fitsZ size n b = false := by
  unfold fitsZ at h ⊢
  have h' := of_decide_eq_false h
  exact decide_eq_false fun ⟨h1, h2⟩ => h' ⟨h1, fun j hj => h2 j (by omega)⟩
theorem fitsZ_yes {size : Int} {n : Nat} {b : Nat → Nat} (h : fitsZ size n b = true) : (2 ≤ size ∧ size ≤ 8) ∧ ∀ i, i < n → b i < 2 ^ size.toNat := of_decide_eq_true h
theorem first_bad (b : Nat → Nat) (m n : Nat) (h : ¬ ∀ i, i < n → b i < m) : ∃ p, p < n ∧ (∀ i, i < p → b i < m) ∧ m ≤ b p := by
  induction n with
  | zero => exact absurd (fun i hi => absurd hi (by omega)) h
  | succ n ih =>
    by_cases hn : ∀ i, i < n → b i < m
    · refine ⟨n, by omega, hn, ?_⟩
      apply Nat.le_of_not_lt
      intro hb
      refine h fun i hi => ?_
      by_cases e : i = n
      · subst e; exact hb
      · exact hn i (by omega)
    · obtain ⟨p, hp, h1, h2⟩ := ih hn
      exact ⟨p, by omega, h1, h2⟩
theorem fits_rep {size : Int} {l : List Nat} {b : Nat → Nat} {k : Nat} (hk : 0 < k) (hb : ∀ i, i < l.length → gz l i = b i) : fitsZ size (rep k l).length (gz (rep k l)) = fitsZ size l.length b := by
  by_cases h : fitsZ size l.length b = true
  · rw [h]
    obtain ⟨h1, h2⟩ := fitsZ_yes h
    refine decide_eq_true ⟨h1, fun i hi => ?_⟩
    have hm : gz (rep k l) i ∈ rep k l := by
      unfold gz
      rw [List.getElem?_eq_getElem hi]
      exact List.getElem_mem hi
    obtain ⟨j, hj, he⟩ := List.mem_iff_getElem.1 (rep_mem hm)
    have := h2 j hj
    rw [← hb j hj] at this
    unfold gz at this
    rw [List.getElem?_eq_getElem hj] at this
    simp only [Option.getD_some] at this
    rwa [he] at this
  · have h0 : fitsZ size l.length b = false := by simpa using h
    rw [h0]
    have h' := of_decide_eq_false h0
    refine decide_eq_false fun ⟨h1, h2⟩ => h' ⟨h1, fun i hi => ?_⟩
    have hlen : i < (rep k l).length := by
      rw [rep_len]
      exact Nat.lt_of_lt_of_le hi (Nat.le_mul_of_pos_left _ hk)
    have := h2 i hlen
    rw [← hb i hi]
    unfold gz at this ⊢
    rwa [rep_get hk l hi] at this
theorem all_lt {all : List Nat} {sz : Nat} (h : fitsZ (sz : Nat) all.length (gz all) = true) : ∀ v ∈ all, v < 2 ^ sz := fun v hv => by
  obtain ⟨hs, hall⟩ := fitsZ_yes h
  obtain ⟨j, hj, rfl⟩ := List.mem_iff_getElem.1 hv
  have := hall j hj
  unfold gz at this
  rw [List.getElem?_eq_getElem hj] at this
  simpa using this
theorem ref_back (A : Option Addr) (cap : Nat) (all : List Nat) (sz : Nat) (hfit : fitsZ (sz : Nat) all.length (gz all) = true) (hlen : all.length ≤ 100000) (hn : (lzwE sz all).length ≤ cap) (hmax : cap ≤ maxLen) (hz : A = none → cap = 0) (w : World) (hP : Byt w A (lzwE sz all).length (gz (lzwE sz all))) :
    Calls Try.prog 41 #[.slice A (lzwE sz all).length cap, .int .i64 (sz : Nat), .int .i64 (all.length : Nat)] w fun e w' => ∃ A' cap', e = .returned (.tuple #[.slice A' all.length cap', .int .i64 0]) ∧ NewB w.heap.size w' all.length A' cap' (gz all) ∧ Below w.heap.size w w' := by
  obtain ⟨hs, hall⟩ := fitsZ_yes hfit
  have hb := back_E sz (by omega) (by omega) all (all_lt hfit) all.length (Nat.le_refl _)
  have hsz := size_E sz (by omega) (by omega) all (fun v hv => Nat.lt_of_lt_of_le (all_lt hfit v hv) (cl_bound (by omega) (by omega)).2)
  have := read_ref A (lzwE sz all).length cap (gz (lzwE sz all)) (lzwE_lt sz all) hn hmax hz (by omega) (sz : Nat) (all.length : Nat) (by omega) w hP
  rw [hb] at this
  exact this
theorem prog_back (A : Option Addr) (cap : Nat) (all : List Nat) (sz : Nat) (hfit : fitsZ (sz : Nat) all.length (gz all) = true) (hlen : all.length ≤ 100000) (hn : (lzwE sz all).length ≤ cap) (hmax : cap ≤ maxLen) (hz : A = none → cap = 0) (w : World) (hP : Byt w A (lzwE sz all).length (gz (lzwE sz all))) :
    Calls Try.prog 46 #[.slice A (lzwE sz all).length cap, .int .i64 (sz : Nat), .int .i64 (all.length : Nat)] w fun e w' => ∃ A' cap', e = .returned (.tuple #[.slice A' all.length cap', .int .i64 0]) ∧ NewB w.heap.size w' all.length A' cap' (gz all) ∧ Below w.heap.size w w' := by
  obtain ⟨hs, hall⟩ := fitsZ_yes hfit
  have hb := back_E sz (by omega) (by omega) all (all_lt hfit) all.length (Nat.le_refl _)
  have hsz := size_E sz (by omega) (by omega) all (fun v hv => Nat.lt_of_lt_of_le (all_lt hfit v hv) (cl_bound (by omega) (by omega)).2)
  have := read_lzw A (lzwE sz all).length cap (gz (lzwE sz all)) (lzwE_lt sz all) hn hmax hz (by omega) (sz : Nat) (all.length : Nat) (by omega) w hP
  rw [hb] at this
  exact this
end Go.Proofs.Ytkjlejkcedemlaa

namespace Go.Proofs.Ytkjlejkcedemlaa
set_option maxRecDepth 100000
set_option linter.unusedVariables false
open Go.ChangeShapes Go.WideShapes Go.ChangeAt Go.RowKit
theorem cellsI_len (l : List Nat) : (cellsI l).length = l.length := by simp [cellsI]
theorem info_int : (Try.prog.info? 3).map (fun i => (i.zero, i.size, i.bytes)) = some (some (.int .i64 0), 1, 8) := by kernel_rfl
/-- The reference's writer: its bits; ob: its row's block. -/
structure Pk (g : Nat) (l : List Nat) (hi : Bool) (ob : Option Nat) (W : World) : Prop where
  row : ∃ vo, W.heap[g]? = some (.cells #[vo, .bool hi] 73 (0, 0)) ∧ W.ownsRow 0 3 1 vo l.length (cellsI l) ∧ vo.ownBlock = ob
  ne : ob ≠ some g
  lt : ∀ x ∈ l, x < 2
theorem own_base {w : World} {base : Nat} {e : TypeId} {size n : Nat} {v : Value} {xs : List Value} (h : w.ownsRow base e size v n xs) : w.ownsRow 0 e size v n xs :=
  ⟨h.1, h.2.imp id fun ⟨g, cap, cur, h1, _, h2⟩ => ⟨g, cap, cur, h1, Nat.zero_le _, h2⟩⟩
theorem own_lt {w : World} {base : Nat} {e : TypeId} {size n : Nat} {v : Value} {xs : List Value} (h : w.ownsRow base e size v n xs) {k : Nat} (hk : v.ownBlock = some k) : k < w.heap.size := (h.lt k hk).2
theorem Pk.chg {g : Nat} {l : List Nat} {hi : Bool} {ob : Option Nat} {w w' : World} {S : List Nat} (h : Pk g l hi ob w) (hc : Chg S w w') (hg : g ∉ S) (hob : ∀ k, ob = some k → k ∉ S) : Pk g l hi ob w' := by
  obtain ⟨⟨vo, hb, hown, he⟩, hn, hl⟩ := h
  exact ⟨⟨vo, hp_chg hb hc hg, own_chg hown hc (fun k hk => hob k (he.symm.trans hk)), he⟩, hn, hl⟩
theorem Pk.ob_lt {g : Nat} {l : List Nat} {hi : Bool} {ob : Option Nat} {w : World} (h : Pk g l hi ob w) {k : Nat} (hk : ob = some k) : k < w.heap.size := by
  obtain ⟨⟨vo, hb, hown, he⟩, hn, hl⟩ := h
  exact own_lt hown (he.trans hk)
theorem Pk.g_lt {g : Nat} {l : List Nat} {hi : Bool} {ob : Option Nat} {w : World} (h : Pk g l hi ob w) : g < w.heap.size := by
  obtain ⟨⟨vo, hb, hown, he⟩, hn, hl⟩ := h
  exact lt_heap hb
theorem own_apart2 {x : Value} {ob : Option Nat} {g : Nat} (he : x.ownBlock = ob) (hn : ob ≠ some g) : x.ownBlock = none ∨ x.ownBlock ≠ some g := .inr (by rw [he]; exact hn)
theorem bitX_eq (x : Int) (k : Nat) : bits BinOp.and IntKind.i64 (x / 2 ^ k) 1 = ((bitX x k : Nat) : Int) := by
  rw [i64_and1]
  unfold bitX
  omega
set_option maxRecDepth 100000 in
set_option maxHeartbeats 400000 in
theorem put_pk (g : Nat) (l : List Nat) (hi : Bool) (ob : Option Nat) (hl : l.length ≤ 500000) (x : Int) (hx : In64 x) (n : Nat) (hn : n ≤ 60) (w : World) (h : Pk g l hi ob w) :
    Calls Try.prog 31 #[.pointer (some ⟨g, 0, none⟩), .int .i64 x, .int .i64 (n : Nat)] w fun e w' => e = .returned (.tuple #[]) ∧ Chg (Near g ob) w w' ∧ ∃ ob', Pk g (l ++ numB hi x n) hi ob' w' ∧ Next ob ob' w := by
  obtain ⟨i0, hi0, hz0, hz1, hz2⟩ := info_parts info_int
  go_enter Try.func31, Try.ntmps31
  go_wp2_with fail
  go_loopw [6] (fun c wr => ∃ (k : Nat) (ob' : Option Nat), k ≤ n ∧ c = .int .i64 k ∧ Chg (Near g ob) w wr ∧ Next ob ob' w ∧ Pk g (l ++ (numB hi x n).take k) hi ob' wr) (fun c _ => n - (intOf c).toNat)
  case atStart => exact ⟨0, ob, by omega, rfl, Chg.refl _ _, .inl rfl, by simpa using h⟩
  case round =>
    obtain ⟨k, ob1, hk, rfl, hCh, hNx, hW⟩ := hrel
    by_cases hlt : k < n
    · have hgl := hW.g_lt
      have hnx : l ++ (numB hi x n).take (k + 1) = (l ++ (numB hi x n).take k) ++ [bitX x (if hi = true then n - 1 - k else k)] := by
        rw [List.take_add_one, numB_get hi x n k hlt, Option.toList_some, List.append_assoc]
      have HX := Lib.hid hnx
      have hlen : (l ++ (numB hi x n).take k).length = l.length + k := by simp [numB_len]; omega
      obtain ⟨m, hm⟩ : ∃ m, m = l ++ (numB hi x n).take k := ⟨_, rfl⟩
      rw [← hm] at hlen hW
      have HM := Lib.hid hm
      have hml : m.length ≤ 500000 + n := by omega
      clear hnx hm hlen
      obtain ⟨⟨vo, hb, hown, hob⟩, hne, hl2⟩ := hW
      have HOB := Lib.hid hob
      clear hob
      have c0 := hp_cell (j := 0) hb rfl
      have c1 := hp_cell (j := 1) hb rfl
      have ff := fun j => hp_froz hb j
      cases hi with
      | true =>
        simp only [if_true] at HX
        obtain ⟨q, hq⟩ : ∃ q, q = n - 1 - k := ⟨_, rfl⟩
        rw [← hq] at HX
        have hqe : (n : Int) - 1 - (k : Int) = (q : Int) := by omega
        have hq64 : q < 64 := by omega
        have hbx := bitX_eq x q
        obtain ⟨y, hy⟩ : ∃ y, y = bitX x q := ⟨_, rfl⟩
        have hy2 : y < 2 := by rw [hy]; exact bitX_lt x q
        rw [← hy] at hbx HX
        clear hq hy
        go_wp2_with (at_builtin; refine wpList_append_own_at _ rfl _ _ 34 rfl 0 3 i0 _ 1 8 Try.underlying34 hi0 hz0 hz1 hz2 rfl (by decide) _ _ _ rfl (hown.alloc _) ⟨wr.heap.size, 0, none⟩ 1 1 [.int .i64 (y : Nat)] rfl rfl ?c1 ?c2 ?c3 ?c4 ?c5 ?_)
        case c1 => intro j u hj; cases j with | zero => simp at hj; subst hj; exact hp_cell (j := 0) (hp_new0 wr _) (by simp) | succ j => simp at hj
        case c2 => intro u hu; simp at hu; subst hu; rfl
        case c3 => unfold maxLen; omega
        case c4 => omega
        case c5 => simp
        intro u2 w4 hown' hgrow _ hat
        rw [HOB.out] at hat hgrow
        obtain ⟨_, Au, cu, rfl, hq1, hq2, _⟩ := Sl.of_own hown'
        obtain ⟨u2, hu2⟩ : ∃ u2, u2 = Value.slice Au (m.length + 1) cu := ⟨_, rfl⟩
        rw [← hu2] at hat hown'
        have hb2 := hp_alloc (.cells #[.int .i64 (y : Nat)] 3) hb
        have hb4 := (hgrow.block g (lt_heap hb2) (fun e => hne e.symm)).trans hb2
        have hC4 : Chg (Near g ob1) wr w4 := ((Chg.refl _ wr).alloc _).trans (Chg.grown hgrow (fun r e => by subst e; simp [Near]))
        have hne2 : u2.ownBlock ≠ some g := by
          rcases hat with h | h
          · rw [h]; exact hne
          · rw [h]; simp; omega
        have hs1 := heap_set (i := 0) (x := u2) hb4
        have hk1 := hown'.kept (grown_set w4 g 0 u2) (.inr hne2)
        have hCf := hCh.trans2 (hC4.trans (near_set (ob := ob1) w4 0 u2)) hNx.near
        have hN : Next ob1 u2.ownBlock wr := by
          rcases hat with h | h
          · exact .inl h
          · exact .inr ⟨_, h, by simp⟩
        have hN2 := hNx.trans hN hCh.size
        have H1 := Lib.hid hs1
        have H2 := Lib.hid hk1
        have H3 := Lib.hid hCf
        have H4 := Lib.hid hN2
        have d0 := hp_cell (j := 0) hb4 rfl
        have df := fun j => hp_froz hb4 j
        clear hs1 hk1 hCf hN2 hN hat hgrow hown' hb2 hb4 hC4 c0 c1 ff hown hb
        subst hu2
        go_wp2_with fail
        go_roundw
        case rel =>
          refine ⟨k + 1, _, hlt, by go_num, H3.out, H4.out, ?_⟩
          rw [HX.out, ← HM.out]
          refine ⟨⟨_, H1.out, ?_, rfl⟩, hne2, fun v hv => ?_⟩
          · rw [List.length_append, List.length_singleton, cellsI_snoc]
            exact H2.out
          · rcases List.mem_append.1 hv with h | h
            · exact hl2 v h
            · simp at h
              omega
        case measure => simp [intOf]; omega
      | false =>
        simp only [Bool.false_eq_true, if_false] at HX
        have hq64 : k < 64 := by omega
        have hbx := bitX_eq x k
        obtain ⟨y, hy⟩ : ∃ y, y = bitX x k := ⟨_, rfl⟩
        have hy2 : y < 2 := by rw [hy]; exact bitX_lt x k
        rw [← hy] at hbx HX
        clear hy
        go_wp2_with (at_builtin; refine wpList_append_own_at _ rfl _ _ 34 rfl 0 3 i0 _ 1 8 Try.underlying34 hi0 hz0 hz1 hz2 rfl (by decide) _ _ _ rfl (hown.alloc _) ⟨wr.heap.size, 0, none⟩ 1 1 [.int .i64 (y : Nat)] rfl rfl ?c1 ?c2 ?c3 ?c4 ?c5 ?_)
        case c1 => intro j u hj; cases j with | zero => simp at hj; subst hj; exact hp_cell (j := 0) (hp_new0 wr _) (by simp) | succ j => simp at hj
        case c2 => intro u hu; simp at hu; subst hu; rfl
        case c3 => unfold maxLen; omega
        case c4 => omega
        case c5 => simp
        intro u2 w4 hown' hgrow _ hat
        rw [HOB.out] at hat hgrow
        obtain ⟨_, Au, cu, rfl, hq1, hq2, _⟩ := Sl.of_own hown'
        obtain ⟨u2, hu2⟩ : ∃ u2, u2 = Value.slice Au (m.length + 1) cu := ⟨_, rfl⟩
        rw [← hu2] at hat hown'
        have hb2 := hp_alloc (.cells #[.int .i64 (y : Nat)] 3) hb
        have hb4 := (hgrow.block g (lt_heap hb2) (fun e => hne e.symm)).trans hb2
        have hC4 : Chg (Near g ob1) wr w4 := ((Chg.refl _ wr).alloc _).trans (Chg.grown hgrow (fun r e => by subst e; simp [Near]))
        have hne2 : u2.ownBlock ≠ some g := by
          rcases hat with h | h
          · rw [h]; exact hne
          · rw [h]; simp; omega
        have hs1 := heap_set (i := 0) (x := u2) hb4
        have hk1 := hown'.kept (grown_set w4 g 0 u2) (.inr hne2)
        have hCf := hCh.trans2 (hC4.trans (near_set (ob := ob1) w4 0 u2)) hNx.near
        have hN : Next ob1 u2.ownBlock wr := by
          rcases hat with h | h
          · exact .inl h
          · exact .inr ⟨_, h, by simp⟩
        have hN2 := hNx.trans hN hCh.size
        have H1 := Lib.hid hs1
        have H2 := Lib.hid hk1
        have H3 := Lib.hid hCf
        have H4 := Lib.hid hN2
        have d0 := hp_cell (j := 0) hb4 rfl
        have df := fun j => hp_froz hb4 j
        clear hs1 hk1 hCf hN2 hN hat hgrow hown' hb2 hb4 hC4 c0 c1 ff hown hb
        subst hu2
        go_wp2_with fail
        go_roundw
        case rel =>
          refine ⟨k + 1, _, hlt, by go_num, H3.out, H4.out, ?_⟩
          rw [HX.out, ← HM.out]
          refine ⟨⟨_, H1.out, ?_, rfl⟩, hne2, fun v hv => ?_⟩
          · rw [List.length_append, List.length_singleton, cellsI_snoc]
            exact H2.out
          · rcases List.mem_append.1 hv with h | h
            · exact hl2 v h
            · simp at h
              omega
        case measure => simp [intOf]; omega
    · obtain rfl : n = k := by omega
      rw [List.take_of_length_le (by rw [numB_len]; omega)] at hW
      go_wp2_with fail
      go_end0
      exact ⟨rfl, hCh, ob1, hW, hNx⟩
end Go.Proofs.Ytkjlejkcedemlaa

namespace Go.Proofs.Ytkjlejkcedemlaa
set_option maxRecDepth 100000
set_option linter.unusedVariables false
open Go.ChangeShapes Go.WideShapes Go.ChangeAt Go.RowKit

theorem cellsB_cells8 (o : List Nat) : cellsB o = cells8 o.length (fun i => (o[i]?).getD 0) := by
  unfold cellsB cells8
  refine List.ext_getElem (by simp) (fun i h1 h2 => ?_)
  simp at h1
  simp [h1]
set_option maxRecDepth 100000 in
set_option maxHeartbeats 400000 in
theorem out_pk (g : Nat) (l : List Nat) (hi : Bool) (ob : Option Nat) (hl : l.length ≤ 500000) (w : World) (h : Pk g l hi ob w) :
    Calls Try.prog 32 #[.pointer (some ⟨g, 0, none⟩)] w fun e w' => ∃ A' cap', e = .returned (.slice A' (pack hi l).1.length cap') ∧ NewB w.heap.size w' (pack hi l).1.length A' cap' (fun i => ((pack hi l).1[i]?).getD 0) ∧ Below w.heap.size w w' := by
  obtain ⟨i0, hi0, hz0, hz1, hz2⟩ := info_parts info8
  have hgl := h.g_lt
  obtain ⟨⟨vo, hb, hown, hob⟩, hne, hl2⟩ := h
  obtain ⟨_, Au, cu, rfl, hq1, hq2, hrow⟩ := Sl.of_own hown
  have c0 := hp_cell (j := 0) hb rfl
  have c1 := hp_cell (j := 1) hb rfl
  obtain ⟨N, hN⟩ : ∃ N, N = (l.length + 7) / 8 := ⟨_, rfl⟩
  have e1 : IntKind.i64.wrap ((l.length : Int) + 7) = (l.length : Int) + 7 := IntWalk.i64_in _ (by omega)
  have e2 : ((l.length : Int) + 7) / 8 = (N : Int) := by omega
  have hNl : N ≤ 100000 := by omega
  have HN := Lib.hid hN
  have HR := Lib.hid hrow
  have HOB := Lib.hid hob
  have HOWN := Lib.hid hown
  clear hN hrow hob hown
  obtain ⟨w2, hmk, hown2, hgrow2⟩ := run_makeSlice_full (P := Try.prog) (w := w) w.heap.size 22 5 i0 _ 1 Try.underlying22 hi0 hz0 hz1 .i64 .i64 N (by omega) (by rw [hz2]; omega) (by unfold maxLen; omega) (Nat.le_refl _)
  have hz9 : (madeCells (Value.int .u8 0).cells (N * 1)).toList = cellsB (outR hi l 0) := by
    rw [outR_zero, Nat.mul_one, show (Value.int .u8 0).cells = #[Value.int .u8 0] from rfl, toList_madeCells_one, ← HN.out]
    simp [cellsB]
  rw [hz9] at hown2
  have hb2 := (hgrow2.block g hgl (by simp)).trans hb
  have HO2 := Lib.hid hown2
  have HG := Lib.hid (Below.refl w.heap.size w |>.grown hgrow2 (Nat.le_refl _) (fun k e => by cases e))
  have HB2 := Lib.hid hb2
  clear hown2 hgrow2 hz9 hb2
  go_enter Try.func32, Try.ntmps32
  go_wp2_with fail
  clear e1 e2 hmk
  go_loopw [4] (fun c wr => ∃ i : Nat, i ≤ l.length ∧ c = .int .i64 i ∧ wr.ownsRow w.heap.size 5 1 (.slice (some ⟨w.heap.size, 0, none⟩) N N) N (cellsB (outR hi l i)) ∧ wr.heap[g]? = some (.cells #[.slice Au l.length cu, .bool hi] 73 (0, 0)) ∧ Below w.heap.size w wr) (fun c _ => l.length - (intOf c).toNat)
  case atStart => exact ⟨0, by omega, rfl, HO2.out, HB2.out, HG.out⟩
  case round =>
    obtain ⟨i, hil, rfl, hown, hbg, hBW⟩ := hrel
    have k0 := hp_cell (j := 0) hbg rfl
    have k1 := hp_cell (j := 1) hbg rfl
    by_cases hlt : i < l.length
    · have HX := Lib.hid (outR_step hi l i hlt)
      have hol : (outR hi l i).length = N := (outR_len hi l i hil).trans HN.out.symm
      have ho8 : ∀ v ∈ outR hi l i, v < 256 := by
        intro v hv
        rcases List.mem_append.1 hv with h | h
        · exact pack_lt hi l hl2 i hil v h
        · have := (List.mem_replicate.1 h).2
          omega
      obtain ⟨hl0, hf⟩ := hown
      rcases hf with ⟨h9, _⟩ | ⟨gb, cap, cur, he, _, hbo, hnc, hcm, hcs, ht⟩
      · cases h9
      cases he
      obtain ⟨bk, off, rfl, hbk, hcl⟩ := HR.out (by omega)
      have hle := hcl i (by omega)
      have hli : (cellsI l)[i]? = some (.int .i64 ((l[i] : Nat) : Int)) := by simp [cellsI, hlt]
      rw [hli] at hle
      have hle' := (hBW.cell (p := ⟨bk, off + i, none⟩) hbk).trans hle
      obtain ⟨y, hy⟩ : ∃ y, y = l[i] := ⟨_, rfl⟩
      have hy2 : y < 2 := by rw [hy]; exact hl2 _ (List.getElem_mem _)
      rw [← hy] at hle' HX
      clear hy hle hli hcl
      obtain ⟨p, hp⟩ : ∃ p, p = i / 8 := ⟨_, rfl⟩
      have hpN : p < N := by have := HN.out; omega
      have hip : ((i / 8 : Nat) : Int) = (p : Int) := by omega
      have hpI : (i : Int) / 8 = (p : Int) := by omega
      rw [← hp] at HX
      have hzc : cur[p]? = some (.int .u8 (((outR hi l i)[p]'(by omega) : Nat) : Int)) := by
        have h1 := congrArg (fun l => l[p]?) ht
        simp only [List.getElem?_take, show p < N * 1 by omega, if_true] at h1
        rw [← Array.getElem?_toList, h1]
        simp [cellsB, hol, hpN]
      rw [List.getElem?_eq_getElem (show p < (outR hi l i).length by omega), Option.getD_some] at HX
      obtain ⟨z, hz⟩ : ∃ z, z = (outR hi l i)[p]'(by omega) := ⟨_, rfl⟩
      have hz8 : z < 256 := by rw [hz]; exact ho8 _ (List.getElem_mem _)
      rw [← hz] at hzc HX
      have ce := hp_cell hbo hzc
      have ff := fun j => hp_froz hbo j
      have e2 : IntKind.u8.wrap (y : Int) = (y : Int) := by rw [IntKind.wrap_u8']; omega
      have hr8 := run_rem8 i (by omega)
      have hq8 := run_quo8 i (by omega)
      rw [← hp] at hq8
      have tm : ((i : Nat) : Int).tmod 8 = ((i % 8 : Nat) : Int) := (Int.tmod_eq_emod_of_nonneg (by omega)).trans (by omega)
      clear hz hp ho8 hzc
      cases hi with
      | true =>
        have hq : ∃ q, q = 7 - i % 8 := ⟨_, rfl⟩
        obtain ⟨q, hq⟩ := hq
        have hq8 : q < 8 := by omega
        have hqI : (7 : Int) - (i : Int) % 8 = (q : Int) := by omega
        have hpos : posB true (7 - i % 8) = q := by unfold posB; rw [if_pos rfl]; omega
        rw [hpos] at HX
        have hyt : y * 2 ^ q < 256 := by
          have h1 : 2 ^ q ≤ 2 ^ 7 := Nat.pow_le_pow_right (by omega) (by omega)
          have h2 : y * 2 ^ q ≤ 1 * 2 ^ q := Nat.mul_le_mul_right _ (by omega)
          omega
        have e3 : IntKind.u8.wrap ((y : Int) * 2 ^ q) = ((y * 2 ^ q : Nat) : Int) := by
          rw [show (y : Int) * 2 ^ q = ((y * 2 ^ q : Nat) : Int) by simp, IntKind.wrap_u8']
          omega
        have e4 : bits BinOp.or IntKind.u8 (z : Int) ((y * 2 ^ q : Nat) : Int) = ((z ||| y * 2 ^ q : Nat) : Int) := u8_or_nat z (y * 2 ^ q) hz8 hyt
        obtain ⟨r, hr⟩ : ∃ r, r = y * 2 ^ q := ⟨_, rfl⟩
        rw [← hr] at e3 e4 HX hyt
        clear hr hpos hq
        have hst := heap_set (i := p) (x := .int .u8 ((z ||| r : Nat) : Int)) (W := wr.drew) hbo
        have hbn := hp_oth (i := p) (v := .int .u8 ((z ||| r : Nat) : Int)) (W := wr.drew) (g := w.heap.size) hbg (by omega)
        have hbw := (hBW.drew).setCell (p := ⟨w.heap.size, p, none⟩) (Nat.le_refl _) (.int .u8 ((z ||| r : Nat) : Int))
        have hrow2 : ∀ W : World, W.heap[w.heap.size]? = some (.cells (cur.setIfInBounds p (.int .u8 ((z ||| r : Nat) : Int))) 5 (0, 0)) → W.ownsRow w.heap.size 5 1 (.slice (some ⟨w.heap.size, 0, none⟩) N N) N (cellsB (outR true l (i + 1))) := fun W hW2 => by
          rw [HX.out]
          refine ⟨by rw [cellsB_len, List.length_set, hol]; omega, .inr ⟨w.heap.size, N, _, rfl, Nat.le_refl _, hW2, Nat.le_refl _, hcm, by simpa using hcs, ?_⟩⟩
          rw [Array.toList_setIfInBounds, List.take_set, ht]
          unfold cellsB
          rw [List.map_set]
        have H1 := Lib.hid hst
        have H2 := Lib.hid hbn
        have H3 := Lib.hid hbw
        have H4 := Lib.hid hrow2
        clear hst hbn hbw hrow2 hbo hbg hBW ht
        have wp : IntKind.i64.wrap (p : Int) = (p : Int) := IntWalk.i64_in _ (by omega)
        have b1 : (p : Int) < (N : Int) := by omega
        have b2 : (i : Int) < (l.length : Int) := by omega
        go_wp2_with fail
        go_still_tail 20, (by kernel_rfl)
        change wpList _ _ _ _ _ wr.drew
        go_wp2_with fail
        go_roundw
        case rel => exact ⟨i + 1, hlt, by go_num, H4.out _ H1.out, H2.out, H3.out⟩
        case measure => simp [intOf]; omega
      | false =>
        have hq : ∃ q, q = i % 8 := ⟨_, rfl⟩
        obtain ⟨q, hq⟩ := hq
        have hq8 : q < 8 := by omega
        have hqI : (i : Int) % 8 = (q : Int) := by omega
        have hpos : posB false (7 - i % 8) = q := by unfold posB; rw [if_neg (by decide)]; omega
        rw [hpos] at HX
        have hyt : y * 2 ^ q < 256 := by
          have h1 : 2 ^ q ≤ 2 ^ 7 := Nat.pow_le_pow_right (by omega) (by omega)
          have h2 : y * 2 ^ q ≤ 1 * 2 ^ q := Nat.mul_le_mul_right _ (by omega)
          omega
        have e3 : IntKind.u8.wrap ((y : Int) * 2 ^ q) = ((y * 2 ^ q : Nat) : Int) := by
          rw [show (y : Int) * 2 ^ q = ((y * 2 ^ q : Nat) : Int) by simp, IntKind.wrap_u8']
          omega
        have e4 : bits BinOp.or IntKind.u8 (z : Int) ((y * 2 ^ q : Nat) : Int) = ((z ||| y * 2 ^ q : Nat) : Int) := u8_or_nat z (y * 2 ^ q) hz8 hyt
        obtain ⟨r, hr⟩ : ∃ r, r = y * 2 ^ q := ⟨_, rfl⟩
        rw [← hr] at e3 e4 HX hyt
        clear hr hpos hq
        have hst := heap_set (i := p) (x := .int .u8 ((z ||| r : Nat) : Int)) (W := wr.drew) hbo
        have hbn := hp_oth (i := p) (v := .int .u8 ((z ||| r : Nat) : Int)) (W := wr.drew) (g := w.heap.size) hbg (by omega)
        have hbw := (hBW.drew).setCell (p := ⟨w.heap.size, p, none⟩) (Nat.le_refl _) (.int .u8 ((z ||| r : Nat) : Int))
        have hrow2 : ∀ W : World, W.heap[w.heap.size]? = some (.cells (cur.setIfInBounds p (.int .u8 ((z ||| r : Nat) : Int))) 5 (0, 0)) → W.ownsRow w.heap.size 5 1 (.slice (some ⟨w.heap.size, 0, none⟩) N N) N (cellsB (outR false l (i + 1))) := fun W hW2 => by
          rw [HX.out]
          refine ⟨by rw [cellsB_len, List.length_set, hol]; omega, .inr ⟨w.heap.size, N, _, rfl, Nat.le_refl _, hW2, Nat.le_refl _, hcm, by simpa using hcs, ?_⟩⟩
          rw [Array.toList_setIfInBounds, List.take_set, ht]
          unfold cellsB
          rw [List.map_set]
        have H1 := Lib.hid hst
        have H2 := Lib.hid hbn
        have H3 := Lib.hid hbw
        have H4 := Lib.hid hrow2
        clear hst hbn hbw hrow2 hbo hbg hBW ht
        have wp : IntKind.i64.wrap (p : Int) = (p : Int) := IntWalk.i64_in _ (by omega)
        have b1 : (p : Int) < (N : Int) := by omega
        have b2 : (i : Int) < (l.length : Int) := by omega
        go_wp2_with fail
        go_still_tail 20, (by kernel_rfl)
        change wpList _ _ _ _ _ wr.drew
        go_wp2_with fail
        go_roundw
        case rel => exact ⟨i + 1, hlt, by go_num, H4.out _ H1.out, H2.out, H3.out⟩
        case measure => simp [intOf]; omega
    · obtain rfl : l.length = i := by omega
      rw [outR_all] at hown
      have hlp := pack_len hi l
      rw [← HN.out] at hlp
      rw [cellsB_cells8, hlp] at hown
      obtain ⟨A', cap', he, hN⟩ := NewB.of_own hown
      rw [← hlp] at hN
      have HF := Lib.hid hN
      have HV := Lib.hid he
      have HL := Lib.hid hlp
      clear hN he hlp hown
      go_wp2_with fail
      go_ret
      exact ⟨A', cap', by rw [HL.out, HV.out]; rfl, HF.out, hBW⟩
end Go.Proofs.Ytkjlejkcedemlaa

namespace Go.Proofs.Ytkjlejkcedemlaa
set_option maxRecDepth 100000
set_option linter.unusedVariables false
open Go.ChangeShapes Go.WideShapes Go.ChangeAt Go.RowKit

theorem U_app (c : Nat → Nat) (i k : Nat) : ∃ t, U c (i + k) = U c i ++ t := by
  induction k with
  | zero => exact ⟨[], by simp⟩
  | succ k ih =>
    obtain ⟨t, ht⟩ := ih
    have e : U c (i + (k + 1)) = U c (i + k + 1) := rfl
    rw [e, U_succ, ht]
    split
    · exact ⟨t, rfl⟩
    · exact ⟨t ++ [p4 c (i + k)], by rw [List.append_assoc]⟩
theorem U_get {c : Nat → Nat} {i N : Nat} (h : i < N) : (U c N)[(U c i).idxOf (p4 c i)]? = some (p4 c i) := by
  have h1 : (U c (i + 1))[(U c i).idxOf (p4 c i)]? = some (p4 c i) := by
    rw [U_succ]
    split
    · rename_i hm
      rw [List.getElem?_eq_getElem (List.idxOf_lt_length_of_mem hm), List.getElem_idxOf]
    · rename_i hm
      rw [List.idxOf_eq_length hm]
      simp
  obtain ⟨k, rfl⟩ := Nat.le.dest (show i + 1 ≤ N from h)
  obtain ⟨t, ht⟩ := U_app c (i + 1) k
  rw [ht, List.getElem?_append_left (List.getElem?_eq_some_iff.1 h1).1, h1]
theorem U_mem {c : Nat → Nat} {N : Nat} {q : P4} (h : q ∈ U c N) : ∃ i, i < N ∧ q = p4 c i := by
  induction N with
  | zero => simp [U, ll, uni] at h
  | succ N ih =>
    rw [U_succ] at h
    split at h
    · obtain ⟨i, hi, e⟩ := ih h
      exact ⟨i, by omega, e⟩
    · rcases List.mem_append.1 h with h | h
      · obtain ⟨i, hi, e⟩ := ih h
        exact ⟨i, by omega, e⟩
      · exact ⟨N, by omega, by simpa using h⟩
theorem pl_get {c : Nat → Nat} {i N : Nat} (h : i < N) : (pl c N)[i]? = some ((U c i).idxOf (p4 c i)) := by simp [pl, h]
theorem idx_lt {c : Nat → Nat} {i N : Nat} (h : i < N) : (U c i).idxOf (p4 c i) < (U c N).length := (List.getElem?_eq_some_iff.1 (U_get h)).1
theorem fit_ok {a b : Int} {N : Nat} {c : Nat → Nat} (hc : ∀ i, c i < 65536) (h : fitsB a b (4 * N) c 2 = true) : mayB a b (4 * N) = true ∧ (∀ i, i < N → okPix c i) ∧ (∀ j, j < 4 * N → c j % 257 = 0) ∧ (U c N).length ≤ 256 := by
  have hm := fits_may h
  simp only [fitsB, Bool.and_eq_true, Bool.or_eq_true, decide_eq_true_eq, Nat.mul_div_cancel_left N (show 0 < 4 by omega)] at h
  obtain ⟨_, (h | h) | h⟩ := h
  · exact absurd h (by decide)
  · exact absurd h.1 (by decide)
  · obtain ⟨_, h1, h2, h3⟩ := h
    rw [colB_U hc] at h1
    exact ⟨hm, clear_iff.1 h3, bytes_iff.1 h2, by have := of_decide_eq_true h1; omega⟩
theorem fit_mk {a b : Int} {N : Nat} {c : Nat → Nat} (hc : ∀ i, c i < 65536) (h : mayB a b (4 * N) = true) (h1 : ∀ i, i < N → okPix c i) (h2 : ∀ j, j < 4 * N → c j % 257 = 0) (h3 : (U c N).length ≤ 256) : fitsB a b (4 * N) c 2 = true := by
  simp only [fitsB, h, Nat.mul_div_cancel_left N (show 0 < 4 by omega), clear_iff.2 h1, bytes_iff.2 h2, colB_U hc]
  simp
  omega
theorem U_alpha {c : Nat → Nat} {N : Nat} (h : ∀ i, i < N → okPix c i) {q : P4} (hq : q ∈ U c N) : q.2.2.2 = 0 ↔ q = (0, 0, 0, 0) := by
  obtain ⟨i, hi, rfl⟩ := U_mem hq
  have h1 := okPix_iff.1 (h i hi)
  simp only [p4, Prod.mk.injEq]
  omega
theorem clear_at {L : List P4} (hL : L.Nodup) {k : Nat} {q : P4} (hq : L[k]? = some q) : (k : Int) = clearIx L ↔ q = (0, 0, 0, 0) := by
  have hk := (List.getElem?_eq_some_iff.1 hq).1
  have he := (List.getElem?_eq_some_iff.1 hq).2
  unfold clearIx
  constructor
  · intro h
    split at h
    · rename_i hm
      have e : k = L.idxOf (0, 0, 0, 0) := by omega
      subst e
      rw [← he, List.getElem_idxOf]
    · omega
  · rintro rfl
    have hm : ((0, 0, 0, 0) : P4) ∈ L := by rw [← he]; exact List.getElem_mem hk
    rw [if_pos hm]
    have h1 := idx_found (l := L) (p := (0, 0, 0, 0)) (k := k) hq (fun j hj e => by
      have hj2 := (List.getElem?_eq_some_iff.1 e).1
      have he2 := (List.getElem?_eq_some_iff.1 e).2
      exact (List.pairwise_iff_getElem.1 hL j k hj2 hk hj) (he2.trans he.symm))
    rw [h1.1]
theorem U_nodup (c : Nat → Nat) (N : Nat) : (U c N).Nodup := uni_nodup' _
end Go.Proofs.Ytkjlejkcedemlaa

namespace Go.Proofs.Ytkjlejkcedemlaa
set_option maxRecDepth 100000
set_option linter.unusedVariables false

/-- The bits of codes of so many bits. -/
def cb (wd : Nat) (cs : List Nat) : List Nat := (cs.map fun c => numB false ((c : Nat) : Int) wd).flatten
theorem cb_snoc (wd : Nat) (cs : List Nat) (c : Nat) : cb wd (cs ++ [c]) = cb wd cs ++ numB false ((c : Nat) : Int) wd := by simp [cb]
theorem cb_append (wd : Nat) (cs ds : List Nat) : cb wd (cs ++ ds) = cb wd cs ++ cb wd ds := by simp [cb]
theorem cb_len (wd : Nat) (cs : List Nat) : (cb wd cs).length = cs.length * wd := by
  induction cs with
  | nil => simp [cb]
  | cons c cs ih =>
    have : cb wd (c :: cs) = numB false ((c : Nat) : Int) wd ++ cb wd cs := by simp [cb]
    rw [this, List.length_append, ih, numB_len, List.length_cons, Nat.add_mul]
    omega
theorem cb_lt (wd : Nat) (cs : List Nat) : ∀ v ∈ cb wd cs, v < 2 := by
  intro v hv
  unfold cb at hv
  obtain ⟨m, hm, hv⟩ := List.mem_flatten.1 hv
  obtain ⟨c, _, rfl⟩ := List.mem_map.1 hm
  exact numB_lt _ _ _ v hv
/-- May these codes be read one by one as they are, many values being ahead of them since the last Clear? -/
def PlOk (cl : Nat) : Nat → List Nat → Prop
  | _, [] => True
  | many, c :: cs => (c = cl ∧ PlOk cl 0 cs) ∨ (c < cl ∧ many + 2 < cl ∧ PlOk cl (many + 1) cs)
def plMany (cl : Nat) : Nat → List Nat → Nat
  | many, [] => many
  | many, c :: cs => if c = cl then plMany cl 0 cs else plMany cl (many + 1) cs
theorem PlOk.append {cl : Nat} : ∀ {cs : List Nat} {many : Nat} {ds : List Nat}, PlOk cl many cs → PlOk cl (plMany cl many cs) ds → PlOk cl many (cs ++ ds)
  | [], _, _, _, h => h
  | c :: cs, many, ds, h1, h2 => by
    rcases h1 with ⟨h3, h4⟩ | ⟨h3, h4, h5⟩
    · rw [plMany, if_pos h3] at h2
      exact .inl ⟨h3, h4.append h2⟩
    · rw [plMany, if_neg (by omega)] at h2
      exact .inr ⟨h3, h4, h5.append h2⟩
theorem plMany_append {cl : Nat} : ∀ {cs : List Nat} {many : Nat} {ds : List Nat}, plMany cl many (cs ++ ds) = plMany cl (plMany cl many cs) ds
  | [], _, _ => rfl
  | c :: cs, many, ds => by
    rw [List.cons_append, plMany, plMany]
    split
    · exact plMany_append
    · exact plMany_append
/-- What plain codes say. -/
def plOut (cl : Nat) (cs : List Nat) : List Nat := cs.filter fun c => decide (c < cl)
theorem plOut_append (cl : Nat) (cs ds : List Nat) : plOut cl (cs ++ ds) = plOut cl cs ++ plOut cl ds := by simp [plOut]
/-- Where a reader of plain codes stands. -/
structure PlD (cl sz many : Nat) (d : Cz) : Prop where
  wd : d.wd = sz + 1
  st : (many = 0 ∧ d.last = none ∧ d.rows = []) ∨ (0 < many ∧ d.last.isSome = true ∧ d.rows.length + 1 = many)
  few : many + 2 ≤ cl
section
variable {B : List Nat} {b : Nat → Nat} {n cl sz most : Nat}
theorem pow_two (hcl : cl = 2 ^ sz) : 2 ^ (sz + 1) = 2 * cl := by rw [Nat.pow_succ, hcl]; omega
theorem plain_clear (hB : Bs B b n) (hs : 2 ≤ sz) (hcl : cl = 2 ^ sz) {many : Nat} {d : Cz} (h : PlD cl sz many d) {pre : List Nat} (hp : d.p = pre.length) (hpre : pre ++ numB false ((cl : Nat) : Int) (sz + 1) <+: B) (K : Nat) (hK : 8 * n - d.p < K + 1) :
    finC b n cl sz most (K + 1) d = finC b n cl sz most K (d.reset sz) ∧ 8 * n - (d.reset sz).p < K ∧ (d.reset sz).p = pre.length + (sz + 1) ∧ PlD cl sz 0 (d.reset sz) := by
  have h4 : 4 ≤ cl := by rw [hcl]; exact Nat.pow_le_pow_right (n := 2) (i := 2) (by omega) hs
  obtain ⟨t1, t2⟩ := rd_code hB hpre (show cl < 2 ^ (sz + 1) by rw [pow_two hcl]; omega)
  rw [← hp, ← h.wd] at t1 t2
  have hw := h.wd
  refine ⟨?_, ?_, ?_, ⟨rfl, .inl ⟨rfl, rfl, rfl⟩, by omega⟩⟩
  · rw [finC, if_neg (by omega), t1, if_pos rfl]
  · show 8 * n - (d.p + d.wd) < K
    omega
  · show d.p + d.wd = _
    omega
theorem plain_val (hB : Bs B b n) (hs : 2 ≤ sz) (hs8 : sz ≤ 8) (hcl : cl = 2 ^ sz) {many : Nat} {d : Cz} (h : PlD cl sz many d) {pre : List Nat} (hp : d.p = pre.length) {v : Nat} (hv : v < cl) (hm : many + 2 < cl) (hpre : pre ++ numB false ((v : Nat) : Int) (sz + 1) <+: B) (hmost : d.out.length < most) (K : Nat) (hK : 8 * n - d.p < K + 1) :
    ∃ d', finC b n cl sz most (K + 1) d = finC b n cl sz most K d' ∧ 8 * n - d'.p < K ∧ d'.p = pre.length + (sz + 1) ∧ PlD cl sz (many + 1) d' ∧ d'.out = d.out ++ [v] := by
  have h4 : 4 ≤ cl := by rw [hcl]; exact Nat.pow_le_pow_right (n := 2) (i := 2) (by omega) hs
  have h256 : cl ≤ 256 := by rw [hcl]; exact Nat.pow_le_pow_right (n := 2) (j := 8) (by omega) hs8
  have hpw := pow_two hcl
  obtain ⟨t1, t2⟩ := rd_code hB hpre (show v < 2 ^ (sz + 1) by rw [hpw]; omega)
  rw [← hp, ← h.wd] at t1 t2
  have hw := h.wd
  have hbad : badC cl d.rows d.last v = false := by unfold badC; simp [hv]
  have hrow : rowC cl d.rows d.last v = [v] := by unfold rowC; rw [if_pos hv]
  refine ⟨d.step cl [v], ?_, ?_, ?_, ⟨?_, ?_, by omega⟩, rfl⟩
  · rw [finC, if_neg (by omega), t1, if_neg (by omega), if_neg (by omega), hbad, hrow]
    simp only [Bool.false_eq_true, if_false, List.length_singleton]
    rw [if_neg (by omega)]
  · show 8 * n - (d.p + d.wd) < K
    omega
  · show d.p + d.wd = _
    omega
  · show wideC cl d.wd d.rows d.last = sz + 1
    unfold wideC
    rw [hw]
    rcases h.st with ⟨_, h1, _⟩ | ⟨_, _, h1⟩
    · rw [h1]; simp
    · rw [if_neg (by rw [hpw]; omega)]
  · refine .inr ⟨by omega, rfl, ?_⟩
    show (rowsC cl d.rows d.last [v]).length + 1 = many + 1
    unfold rowsC
    rcases h.st with ⟨h0, h1, h2⟩ | ⟨_, h1, h2⟩
    · rw [h1, h2, h0]; simp
    · have := h.few
      rw [if_pos ⟨h1, by omega⟩]
      simp
      omega
theorem plain_run (hB : Bs B b n) (hs : 2 ≤ sz) (hs8 : sz ≤ 8) (hcl : cl = 2 ^ sz) : ∀ (cs : List Nat) (many : Nat) (d : Cz) (pre : List Nat) (K : Nat), PlD cl sz many d → d.p = pre.length → PlOk cl many cs → pre ++ cb (sz + 1) cs <+: B → d.out.length + (plOut cl cs).length ≤ most → 8 * n - d.p < K →
    ∃ K' d', finC b n cl sz most K d = finC b n cl sz most K' d' ∧ 8 * n - d'.p < K' ∧ d'.p = (pre ++ cb (sz + 1) cs).length ∧ PlD cl sz (plMany cl many cs) d' ∧ d'.out = d.out ++ plOut cl cs := by
  intro cs
  induction cs with
  | nil => intro many d pre K h hp _ _ _ hK; exact ⟨K, d, rfl, hK, by rw [hp]; simp [cb], h, by simp [plOut]⟩
  | cons c cs ih =>
    intro many d pre K h hp hok hpre hm hK
    obtain ⟨K, rfl⟩ : ∃ j, K = j + 1 := ⟨K - 1, by omega⟩
    have hcb : cb (sz + 1) (c :: cs) = numB false ((c : Nat) : Int) (sz + 1) ++ cb (sz + 1) cs := by simp [cb]
    rw [hcb, ← List.append_assoc] at hpre
    have hpre1 : pre ++ numB false ((c : Nat) : Int) (sz + 1) <+: B := (List.prefix_append _ _).trans hpre
    have hl : (pre ++ numB false ((c : Nat) : Int) (sz + 1)).length = pre.length + (sz + 1) := by rw [List.length_append, numB_len]
    rcases hok with ⟨h3, h4⟩ | ⟨h3, h4, h5⟩
    · subst h3
      obtain ⟨g1, g2, g3, g4⟩ := plain_clear (most := most) hB hs hcl h hp hpre1 K hK
      have ho : plOut c (c :: cs) = plOut c cs := by simp [plOut]
      rw [ho] at hm ⊢
      obtain ⟨K', d', f1, f2, f3, f4, f5⟩ := ih 0 (d.reset sz) _ K g4 (by rw [g3, hl]) h4 hpre hm g2
      refine ⟨K', d', g1.trans f1, f2, by rw [f3, hcb, ← List.append_assoc], ?_, f5⟩
      rw [plMany, if_pos rfl]
      exact f4
    · have ho : plOut cl (c :: cs) = c :: plOut cl cs := by simp [plOut, h3]
      rw [ho, List.length_cons] at hm
      obtain ⟨d1, g1, g2, g3, g4, g5⟩ := plain_val (most := most) hB hs hs8 hcl h hp h3 h4 hpre1 (by omega) K hK
      obtain ⟨K', d', f1, f2, f3, f4, f5⟩ := ih (many + 1) d1 _ K g4 (by rw [g3, hl]) h5 hpre (by rw [g5, List.length_append, List.length_singleton]; omega) g2
      refine ⟨K', d', g1.trans f1, f2, by rw [f3, hcb, ← List.append_assoc], ?_, by rw [f5, g5, ho, List.append_assoc]; rfl⟩
      rw [plMany, if_neg (by omega)]
      exact f4
theorem pl0 (hs : 2 ≤ sz) (hcl : cl = 2 ^ sz) : PlD cl sz 0 (cz0 sz) := ⟨rfl, .inl ⟨rfl, rfl, rfl⟩, by have : 4 ≤ cl := by { rw [hcl]; exact Nat.pow_le_pow_right (n := 2) (i := 2) (by omega) hs }; omega⟩
/-- Plain codes and an end are read as they are. -/
theorem plain_all (hs : 2 ≤ sz) (hs8 : sz ≤ 8) (hcl : cl = 2 ^ sz) (cs : List Nat) (hok : PlOk cl 0 cs) (hm : (plOut cl cs).length ≤ most) :
    lzwV (gz (pack false (cb (sz + 1) (cs ++ [cl + 1]))).1) (pack false (cb (sz + 1) (cs ++ [cl + 1]))).1.length sz most = (plOut cl cs, 0) := by
  rw [lzwV_yes _ _ sz most hs hs8, ← hcl]
  have hBs := bs_pack _ (cb_lt (sz + 1) (cs ++ [cl + 1]))
  generalize hB : cb (sz + 1) (cs ++ [cl + 1]) = B at *
  generalize gz (pack false B).1 = b at *
  generalize (pack false B).1.length = n at *
  rw [cb_snoc] at hB
  have hpre : cb (sz + 1) cs <+: B := by rw [← hB]; exact List.prefix_append _ _
  obtain ⟨K, d, f1, f2, f3, f4, f5⟩ := plain_run (most := most) hBs hs hs8 hcl cs 0 (cz0 sz) [] (8 * n + 1) (pl0 hs hcl) rfl hok (by simpa using hpre) (by simpa [cz0] using hm) (by show 8 * n - 0 < _; omega)
  rw [f1]
  obtain ⟨K, rfl⟩ : ∃ j, K = j + 1 := ⟨K - 1, by omega⟩
  have h4 : 4 ≤ cl := by rw [hcl]; exact Nat.pow_le_pow_right (n := 2) (i := 2) (by omega) hs
  obtain ⟨t1, t2⟩ := rd_code hBs (pre := cb (sz + 1) cs) (by rw [hB]; exact List.prefix_refl _) (show cl + 1 < 2 ^ (sz + 1) by rw [pow_two hcl]; omega)
  have hp : d.p = (cb (sz + 1) cs).length := by simpa using f3
  rw [← hp, ← f4.wd] at t1 t2
  rw [finC, if_neg (by omega), t1, if_neg (by omega), if_pos rfl, f5]
  simp [cz0]
/-- Behind a Clear a code that is no value may not be. -/
theorem plain_bad (hs : 2 ≤ sz) (hs8 : sz ≤ 8) (hcl : cl = 2 ^ sz) (cs : List Nat) (hok : PlOk cl 0 cs) (hm : (plOut cl cs).length ≤ most) :
    lzwV (gz (pack false (cb (sz + 1) (cs ++ [cl] ++ [cl + 2]))).1) (pack false (cb (sz + 1) (cs ++ [cl] ++ [cl + 2]))).1.length sz most = ([], 4) := by
  rw [lzwV_yes _ _ sz most hs hs8, ← hcl]
  have hBs := bs_pack _ (cb_lt (sz + 1) (cs ++ [cl] ++ [cl + 2]))
  generalize hB : cb (sz + 1) (cs ++ [cl] ++ [cl + 2]) = B at *
  generalize gz (pack false B).1 = b at *
  generalize (pack false B).1.length = n at *
  rw [cb_snoc] at hB
  have hpre : cb (sz + 1) (cs ++ [cl]) <+: B := by rw [← hB]; exact List.prefix_append _ _
  have hok2 : PlOk cl 0 (cs ++ [cl]) := hok.append (.inl ⟨rfl, trivial⟩)
  have hmz : plMany cl 0 (cs ++ [cl]) = 0 := by rw [plMany_append, plMany, if_pos rfl, plMany]
  have hmo : plOut cl (cs ++ [cl]) = plOut cl cs := by rw [plOut_append]; simp [plOut]
  obtain ⟨K, d, f1, f2, f3, f4, f5⟩ := plain_run (most := most) hBs hs hs8 hcl (cs ++ [cl]) 0 (cz0 sz) [] (8 * n + 1) (pl0 hs hcl) rfl hok2 (by simpa using hpre) (by rw [hmo]; simpa [cz0] using hm) (by show 8 * n - 0 < _; omega)
  rw [f1]
  rw [hmz] at f4
  obtain ⟨K, rfl⟩ : ∃ j, K = j + 1 := ⟨K - 1, by omega⟩
  have h4 : 4 ≤ cl := by rw [hcl]; exact Nat.pow_le_pow_right (n := 2) (i := 2) (by omega) hs
  obtain ⟨t1, t2⟩ := rd_code hBs (pre := cb (sz + 1) (cs ++ [cl])) (by rw [hB]; exact List.prefix_refl _) (show cl + 2 < 2 ^ (sz + 1) by rw [pow_two hcl]; omega)
  have hp : d.p = (cb (sz + 1) (cs ++ [cl])).length := by simpa using f3
  rw [← hp, ← f4.wd] at t1 t2
  have hl : d.last = none := by
    rcases f4.st with ⟨_, h, _⟩ | ⟨h, _⟩
    · exact h
    · omega
  have hbad : badC cl d.rows d.last (cl + 2) = true := by unfold badC; rw [hl]; simp
  rw [finC, if_neg (by omega), t1, if_neg (by omega), if_neg (by omega), hbad]
  rfl
/-- The plainest codes of values: a Clear ahead, and one behind each cl - 2 values. -/
def stC (cl : Nat) (s : Nat × List Nat) (v : Nat) : Nat × List Nat := if s.1 = cl - 2 then (1, s.2 ++ [cl] ++ [v]) else (s.1 + 1, s.2 ++ [v])
def plC (cl : Nat) (l : List Nat) : Nat × List Nat := l.foldl (stC cl) (0, [cl])
theorem plC_snoc (cl : Nat) (l : List Nat) (v : Nat) : plC cl (l ++ [v]) = stC cl (plC cl l) v := by simp [plC]
theorem plC_ok (h4 : 4 ≤ cl) (l : List Nat) (hl : ∀ v ∈ l, v < cl) : PlOk cl 0 (plC cl l).2 ∧ plMany cl 0 (plC cl l).2 = (plC cl l).1 ∧ (plC cl l).1 + 2 ≤ cl ∧ plOut cl (plC cl l).2 = l ∧ (plC cl l).2.length ≤ 2 * l.length + 1 := by
  have key : ∀ j, j ≤ l.length → PlOk cl 0 (plC cl (l.take j)).2 ∧ plMany cl 0 (plC cl (l.take j)).2 = (plC cl (l.take j)).1 ∧ (plC cl (l.take j)).1 + 2 ≤ cl ∧ plOut cl (plC cl (l.take j)).2 = l.take j ∧ (plC cl (l.take j)).2.length ≤ 2 * j + 1 := by
    intro j
    induction j with
    | zero =>
      intro _
      rw [List.take_zero]
      exact ⟨.inl ⟨rfl, trivial⟩, by simp [plC, plMany], by simp [plC]; omega, by simp [plC, plOut], by simp [plC]⟩
    | succ j ih =>
      intro hj
      obtain ⟨g1, g2, g3, g4, g5⟩ := ih (by omega)
      have hget : l[j]? = some l[j] := List.getElem?_eq_getElem (by omega)
      have htk : l.take (j + 1) = l.take j ++ [l[j]] := by rw [List.take_add_one, hget]; rfl
      have hv : l[j] < cl := hl _ (List.getElem_mem _)
      rw [htk, plC_snoc]
      generalize plC cl (l.take j) = q at *
      obtain ⟨m, cs⟩ := q
      dsimp only at *
      have hov : plOut cl [l[j]] = [l[j]] := by simp [plOut, hv]
      unfold stC
      dsimp only
      by_cases hm : m = cl - 2
      · rw [if_pos hm]
        have hoc : plOut cl [cl] = [] := by simp [plOut]
        have m1 : plMany cl 0 (cs ++ [cl]) = 0 := by rw [plMany_append, plMany, if_pos rfl, plMany]
        have o1 : PlOk cl 0 (cs ++ [cl]) := g1.append (.inl ⟨rfl, trivial⟩)
        refine ⟨o1.append (.inr ⟨hv, by omega, trivial⟩), ?_, by dsimp only; omega, ?_, ?_⟩
        · rw [plMany_append, m1, plMany, if_neg (by omega), plMany]
        · rw [plOut_append, plOut_append, g4, hoc, hov]; simp
        · simp; omega
      · rw [if_neg hm]
        refine ⟨g1.append (.inr ⟨hv, by omega, trivial⟩), ?_, by dsimp only; omega, ?_, ?_⟩
        · rw [plMany_append, g2, plMany, if_neg (by omega), plMany]
        · rw [plOut_append, g4, hov]
        · simp; omega
  have := key l.length (Nat.le_refl _)
  rwa [List.take_length] at this
end
end Go.Proofs.Ytkjlejkcedemlaa

namespace Go.Proofs.Ytkjlejkcedemlaa
set_option maxRecDepth 100000
set_option linter.unusedVariables false
open Go.ChangeShapes Go.WideShapes Go.ChangeAt Go.RowKit

/-- The reference's writer, made behind w0. -/
def PkR (w0 : World) (g : Nat) (l : List Nat) (ob : Option Nat) (w : World) : Prop := Pk g l false ob w ∧ Below w0.heap.size w0 w ∧ w0.heap.size ≤ g ∧ ∀ k, ob = some k → w0.heap.size ≤ k
theorem pkR_put {w0 : World} {g : Nat} {l : List Nat} {ob : Option Nat} {w : World} (h : PkR w0 g l ob w) (hl : l.length ≤ 500000) (x : Int) (hx : In64 x) (n : Nat) (hn : n ≤ 60) :
    Calls Try.prog 31 #[.pointer (some ⟨g, 0, none⟩), .int .i64 x, .int .i64 (n : Nat)] w fun e w' => e = .returned (.tuple #[]) ∧ ∃ ob', PkR w0 g (l ++ numB false x n) ob' w' := by
  obtain ⟨h1, h2, h3, h4⟩ := h
  refine (put_pk g l false ob hl x hx n hn w h1).mono ?_
  rintro e w' ⟨rfl, hC, ob', hP, hN⟩
  refine ⟨rfl, ob', hP, h2.trans (hC.below h2.size fun k hk => ?_), h3, fun k hk => ?_⟩
  · rcases List.mem_cons.1 hk with rfl | hk
    · exact h3
    · exact h4 k (by simpa using hk)
  · rcases hN with rfl | ⟨q, rfl, hq⟩
    · exact h4 k hk
    · injection hk with hk
      subst hk
      exact Nat.le_trans h2.size hq
theorem PkR.below {w0 : World} {g : Nat} {l : List Nat} {ob : Option Nat} {w w' : World} (h : PkR w0 g l ob w) (hB : Below w.heap.size w w') : PkR w0 g l ob w' :=
  ⟨h.1.chg (Chg.of_below (S := []) hB) (by simp) (fun _ _ => by simp), h.2.1.trans (hB.mono h.2.1.size), h.2.2⟩
theorem pkR_new (w0 w : World) (h : Below w0.heap.size w0 w) : PkR w0 w.heap.size [] none (w.alloc (.cells #[.slice none 0 0, .bool false] 73)) :=
  ⟨⟨⟨.slice none 0 0, hp_new0 _ _, World.ownsRow_nil _ _ _ _, rfl⟩, by simp, by simp⟩, h.alloc h.size _, h.size, fun k hk => by cases hk⟩
theorem pkR_out {w0 : World} {g : Nat} {l : List Nat} {ob : Option Nat} {w : World} (h : PkR w0 g l ob w) (hl : l.length ≤ 500000) :
    Calls Try.prog 32 #[.pointer (some ⟨g, 0, none⟩)] w fun e w' => ∃ A' cap', e = .returned (.slice A' (pack false l).1.length cap') ∧ NewB w.heap.size w' (pack false l).1.length A' cap' (gz (pack false l).1) ∧ Below w.heap.size w w' :=
  out_pk g l false ob hl w h.1
theorem in64_nat {k : Nat} (h : k ≤ 1000000) : In64 (k : Int) := by unfold In64; omega
set_option maxRecDepth 100000 in
set_option maxHeartbeats 2000000 in
theorem write_plain (A : Option Addr) (cap : Nat) (l : List Nat) (hl : ∀ v ∈ l, v < 256) (sz : Nat) (h1 : 2 ≤ sz) (h2 : sz ≤ 8) (hn : l.length ≤ 20000) (w : World) (hP : Byt w A l.length (gz l)) :
    Calls Try.prog 17 #[.slice A l.length cap, .int .i64 (sz : Nat)] w fun e w' => ∃ A' cap', e = .returned (.slice A' (pack false (cb (sz + 1) ((plC (2 ^ sz) l).2 ++ [2 ^ sz + 1]))).1.length cap') ∧ NewB w.heap.size w' (pack false (cb (sz + 1) ((plC (2 ^ sz) l).2 ++ [2 ^ sz + 1]))).1.length A' cap' (gz (pack false (cb (sz + 1) ((plC (2 ^ sz) l).2 ++ [2 ^ sz + 1]))).1) ∧ Below w.heap.size w w' := by
  obtain ⟨hc4, hc256⟩ := cl_bound h1 h2
  obtain ⟨cl, hcl⟩ : ∃ cl, cl = 2 ^ sz := ⟨_, rfl⟩
  have hwp : wrap64 ((2 : Int) ^ sz) = (cl : Int) := by rw [wrap_pow sz (by omega), hcl]
  rw [← hcl] at hc4 hc256 ⊢
  have hlen : ∀ j, j ≤ l.length → (plC cl (l.take j)).2.length ≤ 2 * j + 1 ∧ (plC cl (l.take j)).1 ≤ j := by
    intro j
    induction j with
    | zero => intro _; simp [plC]
    | succ j ih =>
      intro hj
      have hget : l[j]? = some l[j] := List.getElem?_eq_getElem (by omega)
      have htk : l.take (j + 1) = l.take j ++ [l[j]] := by rw [List.take_add_one, hget]; rfl
      have := ih (by omega)
      rw [htk, plC_snoc]
      unfold stC
      split
      · simp; omega
      · simp; omega
  have HLN := Lib.hid hlen
  have HPW := Lib.hid hwp
  have HL := Lib.hid hl
  have H0 : Hid (∀ ob wr, PkR w w.heap.size ([] ++ numB false ((cl : Nat) : Int) (sz + 1)) ob wr → PkR w w.heap.size (cb (sz + 1) (plC cl (l.take 0)).2) ob wr) := Lib.hid fun ob wr h => by simpa [plC, cb] using h
  obtain ⟨n, hnn⟩ : ∃ n, n = l.length := ⟨_, rfl⟩
  have HNN := Lib.hid hnn
  have hn' : n ≤ 20000 := by omega
  rw [← hnn] at hP ⊢
  have hcl64 := in64_nat (k := cl) (by omega)
  have hcl65 := in64_nat (k := cl + 1) (by omega)
  have HC1 := Lib.hid hcl64
  have HC2 := Lib.hid hcl65
  clear hcl hlen hl hnn hn hcl64 hcl65
  go_enter Try.func17, Try.ntmps17
  go_wp2_with fail
  refine (pkR_put (pkR_new w _ (Below.refl _ _)) (by simp) (cl : Nat) HC1.out (sz + 1) (by omega)).mono ?_
  rintro e w1 ⟨rfl, ob, hK⟩
  have HK0 := Lib.hid (H0.out _ _ hK)
  clear hK H0
  go_wp2_with fail
  go_loopw [7, 8] (fun s7 s8 wr => ∃ (i : Nat) (ob : Option Nat), i ≤ n ∧ s8 = .int .i64 (i : Nat) ∧ s7 = .int .i64 ((plC cl (l.take i)).1 : Nat) ∧ PkR w w.heap.size (cb (sz + 1) (plC cl (l.take i)).2) ob wr) (fun _ s8 _ => n - (intOf s8).toNat)
  case atStart => exact ⟨0, ob, by omega, rfl, by simp [plC], HK0.out⟩
  case round =>
    clear HK0
    obtain ⟨i, ob, hi, rfl, rfl, hK⟩ := hrel
    obtain ⟨g1, g2⟩ := HLN.out i (by rw [← HNN.out]; exact hi)
    have hbits : (cb (sz + 1) (plC cl (l.take i)).2).length ≤ 400000 := by
      rw [cb_len]
      have : (plC cl (l.take i)).2.length * (sz + 1) ≤ 40001 * 9 := Nat.mul_le_mul (by omega) (by omega)
      omega
    by_cases hlt : i < n
    · have hget : l[i]? = some l[i] := List.getElem?_eq_getElem (by rw [← HNN.out]; exact hlt)
      have htk : l.take (i + 1) = l.take i ++ [l[i]] := by rw [List.take_add_one, hget]; rfl
      have hx : gz l i = l[i] := by unfold gz; rw [hget]; rfl
      have hxl : l[i] < 256 := HL.out _ (List.getElem_mem _)
      have hst : plC cl (l.take (i + 1)) = stC cl (plC cl (l.take i)) l[i] := by rw [htk, plC_snoc]
      obtain ⟨bk, off, rfl, hbk, hc⟩ := hP.below hK.2.1 (by omega)
      have hci := hc i hlt
      rw [hx] at hci
      have hbkw : bk < w.heap.size := by
        obtain ⟨bk', off', he, hlt', _⟩ := hP (by omega)
        injection he with he
        injection he with e1 e2
        subst e1
        exact hlt'
      generalize l[i] = x at *
      obtain ⟨q, hq⟩ : ∃ q, q = plC cl (l.take i) := ⟨_, rfl⟩
      rw [← hq] at hK hbits hst g1 g2 ⊢
      obtain ⟨m, cs⟩ := q
      dsimp only at hK hbits hst g1 g2 ⊢
      have HST := Lib.hid hst
      have HK := Lib.hid hK
      have hx64 := in64_nat (k := x) (by omega)
      have HX := Lib.hid hx64
      clear hst hK hq hx64 hc htk hget hx
      by_cases hm : m = cl - 2
      · have t2 : ((m : Int) == (cl : Int) - 2) = true := by simp; omega
        have hst2 : Hid (stC cl (m, cs) x = (1, cs ++ [cl] ++ [x])) := Lib.hid (by unfold stC; rw [if_pos hm])
        go_wp2_with fail
        refine (pkR_put HK.out (by omega) (cl : Nat) HC1.out (sz + 1) (by omega)).mono ?_
        rintro e w2 ⟨rfl, ob2, hK2⟩
        rw [← cb_snoc] at hK2
        have hci2 := (hK2.2.1.cell (p := ⟨bk, off + i, none⟩) hbkw).trans ((HK.out.2.1.cell (p := ⟨bk, off + i, none⟩) hbkw).symm.trans hci)
        have hb2 : (cb (sz + 1) (cs ++ [cl])).length ≤ 500000 := by rw [cb_snoc, List.length_append, numB_len]; omega
        have HK2 := Lib.hid hK2
        clear hK2 hci
        go_wp2_with fail
        refine (pkR_put HK2.out hb2 (x : Nat) HX.out (sz + 1) (by omega)).mono ?_
        rintro e w3 ⟨rfl, ob3, hK3⟩
        rw [← cb_snoc] at hK3
        have HK3 := Lib.hid hK3
        clear hK3 hci2
        go_wp2_with fail
        go_roundw
        case rel => exact ⟨i + 1, ob3, by omega, by go_num, by rw [HST.out, hst2.out]; rfl, by rw [HST.out, hst2.out]; exact HK3.out⟩
        case measure => simp [intOf]; omega
      · have t2 : ((m : Int) == (cl : Int) - 2) = false := by simp; omega
        have hst2 : Hid (stC cl (m, cs) x = (m + 1, cs ++ [x])) := Lib.hid (by unfold stC; rw [if_neg hm])
        go_wp2_with fail
        refine (pkR_put HK.out (by omega) (x : Nat) HX.out (sz + 1) (by omega)).mono ?_
        rintro e w3 ⟨rfl, ob3, hK3⟩
        rw [← cb_snoc] at hK3
        have HK3 := Lib.hid hK3
        clear hK3 hci
        go_wp2_with fail
        go_roundw
        case rel => exact ⟨i + 1, ob3, by omega, by go_num, by rw [HST.out, hst2.out]; go_num, by rw [HST.out, hst2.out]; exact HK3.out⟩
        case measure => simp [intOf]; omega
    · obtain rfl : i = n := by omega
      rw [show l.take i = l by rw [HNN.out, List.take_length]] at hK hbits ⊢
      obtain ⟨q, hq⟩ : ∃ q, q = plC cl l := ⟨_, rfl⟩
      rw [← hq] at hK hbits ⊢
      obtain ⟨m, cs⟩ := q
      dsimp only at hK hbits ⊢
      have HK := Lib.hid hK
      have HQ := Lib.hid hq
      clear hq hK
      go_wp2_with fail
      refine (pkR_put HK.out (by omega) ((cl + 1 : Nat) : Int) HC2.out (sz + 1) (by omega)).mono ?_
      rintro e w2 ⟨rfl, ob2, hK2⟩
      rw [← cb_snoc] at hK2
      have hb2 : (cb (sz + 1) (cs ++ [cl + 1])).length ≤ 500000 := by rw [cb_snoc, List.length_append, numB_len]; omega
      have HK2 := Lib.hid hK2
      clear hK2
      go_wp2_with fail
      refine (pkR_out HK2.out hb2).mono ?_
      rintro e w3 ⟨A3, cap3, rfl, hN3, hB3⟩
      have HN3 : Hid (NewB w.heap.size w3 _ A3 cap3 _) := Lib.hid (⟨hN3.le, hN3.max, hN3.nil, hN3.byt, (fun a ha => Nat.le_trans HK2.out.2.1.size (hN3.far a ha)), hN3.lt, hN3.form⟩ : NewB w.heap.size w3 _ A3 cap3 _)
      have HB3 := Lib.hid (HK2.out.2.1.trans (hB3.mono HK2.out.2.1.size))
      clear hN3 hB3
      go_wp2
      go_ret
      rw [← HQ.out]
      exact ⟨A3, cap3, rfl, HN3.out, HB3.out⟩
end Go.Proofs.Ytkjlejkcedemlaa

namespace Go.Proofs.Ytkjlejkcedemlaa
set_option maxRecDepth 100000
set_option linter.unusedVariables false
open Go.ChangeShapes Go.WideShapes Go.ChangeAt Go.RowKit

def num2 (n : Nat) : List Nat := [n % 256, n / 256 % 256]
/-- The t-th byte of a table of colours. -/
def tbB (L : List P4) (t : Nat) : Nat := part4 ((L[t / 3]?).getD (0, 0, 0, 0)) (t % 3) / 257
/-- j bytes of it are written. -/
def tabR (L : List P4) (M j : Nat) : List Nat := (List.range M).map fun t => if t < j then tbB L t else 0
theorem tabR_len (L : List P4) (M j : Nat) : (tabR L M j).length = M := by simp [tabR]
theorem tabR_get (L : List P4) (M j : Nat) (h : j < M) : (tabR L M j)[j]? = some 0 := by simp [tabR, h]
theorem tabR_set (L : List P4) (M j : Nat) : (tabR L M j).set j (tbB L j) = tabR L M (j + 1) := by
  apply List.ext_getElem?
  intro t
  by_cases ht : t < M
  · rw [List.getElem?_set]
    by_cases e : j = t
    · subst e
      simp [tabR, ht]
    · rw [if_neg e]
      have : (t < j) ↔ (t < j + 1) := by omega
      simp [tabR, ht, this]
  · rw [List.getElem?_eq_none (by rw [List.length_set, tabR_len]; omega), List.getElem?_eq_none (by rw [tabR_len]; omega)]
theorem cellsP_at (L : List P4) (i k : Nat) (hi : i < L.length) (hk : k < 4) : (cellsP L)[4 * i + k]? = some (.int .u16 ((part4 ((L[i]?).getD (0, 0, 0, 0)) k : Nat) : Int)) := by
  have key : ∀ (L : List P4) (i : Nat), i < L.length → (cellsP L)[4 * i + k]? = some (.int .u16 ((part4 ((L[i]?).getD (0, 0, 0, 0)) k : Nat) : Int)) := by
    intro L
    induction L with
    | nil => intro i h; simp at h
    | cons p L ih =>
      intro i h
      show (cP p ++ cellsP L)[4 * i + k]? = _
      cases i with
      | zero =>
        rw [List.getElem?_append_left (by simp [cP]; omega)]
        obtain ⟨a, b, c, d⟩ := p
        match k, hk with
        | 0, _ => rfl
        | 1, _ => rfl
        | 2, _ => rfl
        | 3, _ => rfl
      | succ i =>
        rw [List.getElem?_append_right (by simp [cP]; omega)]
        have e : 4 * (i + 1) + k - (cP p).length = 4 * i + k := by simp [cP]; omega
        rw [e, ih i (by simpa using h)]
        simp
  exact key L i hi
theorem part_cell (p : P4) {k : Nat} (hk : k < 4) : (#[Value.int .u16 (part4 p 0 : Nat), .int .u16 (part4 p 1 : Nat), .int .u16 (part4 p 2 : Nat), .int .u16 (part4 p 3 : Nat)] : Array Value)[k]? = some (.int .u16 (part4 p k : Nat)) := by
  match k, hk with
  | 0, _ => rfl
  | 1, _ => rfl
  | 2, _ => rfl
  | 3, _ => rfl
theorem eight_nat (x : Nat) (h : x % 257 = 0) : eightV (x : Int) = ((x / 257 : Nat) : Int) ∧ eightB (x : Int) = true := by
  have e : eightB (x : Int) = true := by simp [eightB]; omega
  refine ⟨?_, e⟩
  unfold eightV
  rw [if_pos e]
  omega
end Go.Proofs.Ytkjlejkcedemlaa
