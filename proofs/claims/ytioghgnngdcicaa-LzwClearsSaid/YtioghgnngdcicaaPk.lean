/- The reference's writer of bits. -/
import Derived.Test.YtioghgnngdcicaaBitP
import Derived.Test.YtioghgnngdcicaaEnds
import Derived.StillTailTactics
namespace Go.Proofs.Ytioghgnngdcicaa
set_option linter.unusedVariables false
open Go.ChangeShapes Go.WideShapes Go.ChangeAt Go.RowKit

def cellsI (l : List Nat) : List Value := l.map fun k => .int .i64 ((k : Nat) : Int)
theorem cellsI_len (l : List Nat) : (cellsI l).length = l.length := by simp [cellsI]
theorem cellsI_snoc (l : List Nat) (x : Nat) : cellsI (l ++ [x]) = cellsI l ++ [.int .i64 ((x : Nat) : Int)] := by simp [cellsI]
theorem info_int : (Try.prog.info? 3).map (fun i => (i.zero, i.size, i.bytes)) = some (some (.int .i64 0), 1, 8) := by kernel_rfl
/-- The reference's writer: its bits; ob: its row's block. -/
structure Pk (g : Nat) (l : List Nat) (hi : Bool) (ob : Option Nat) (W : World) : Prop where
  row : ∃ vo, W.heap[g]? = some (.cells #[vo, .bool hi] 46 (0, 0)) ∧ W.ownsRow 0 3 1 vo l.length (cellsI l) ∧ vo.ownBlock = ob
  ne : ob ≠ some g
  lt : ∀ x ∈ l, x < 2
theorem own_base {w : World} {base : Nat} {e : TypeId} {size n : Nat} {v : Value} {xs : List Value} (h : w.ownsRow base e size v n xs) : w.ownsRow 0 e size v n xs :=
  ⟨h.1, h.2.imp id fun ⟨g, cap, cur, h1, _, h2⟩ => ⟨g, cap, cur, h1, Nat.zero_le _, h2⟩⟩
theorem own_lt {w : World} {base : Nat} {e : TypeId} {size n : Nat} {v : Value} {xs : List Value} (h : w.ownsRow base e size v n xs) {k : Nat} (hk : v.ownBlock = some k) : k < w.heap.size := (h.lt k hk).2
theorem Pk.chg {g : Nat} {l : List Nat} {hi : Bool} {ob : Option Nat} {w w' : World} {S : List Nat} (h : Pk g l hi ob w) (hc : Chg S w w') (hg : g ∉ S) (hob : ∀ k, ob = some k → k ∉ S) : Pk g l hi ob w' := by
  obtain ⟨⟨vo, hb, hown, he⟩, hn, hl⟩ := h
  exact ⟨⟨vo, hp_chg hb hc hg, own_chg hown hc (fun k hk => hob k (he.symm.trans hk)), he⟩, hn, hl⟩
theorem Pk.ob_lt {g : Nat} {l : List Nat} {hi : Bool} {ob : Option Nat} {w : World} (h : Pk g l hi ob w) {k : Nat} (hk : ob = some k) : k < w.heap.size := by
  obtain ⟨⟨vo, hb, hown, he⟩, hn, hl⟩ := h
  exact own_lt hown (he.trans hk)
theorem Pk.g_lt {g : Nat} {l : List Nat} {hi : Bool} {ob : Option Nat} {w : World} (h : Pk g l hi ob w) : g < w.heap.size := by
  obtain ⟨⟨vo, hb, hown, he⟩, hn, hl⟩ := h
  exact lt_heap hb
theorem own_apart2 {x : Value} {ob : Option Nat} {g : Nat} (he : x.ownBlock = ob) (hn : ob ≠ some g) : x.ownBlock = none ∨ x.ownBlock ≠ some g := .inr (by rw [he]; exact hn)
theorem bitX_eq (x : Int) (k : Nat) : bits BinOp.and IntKind.i64 (x / 2 ^ k) 1 = ((bitX x k : Nat) : Int) := by
  rw [i64_and1]
  unfold bitX
  omega
set_option maxRecDepth 100000 in
set_option maxHeartbeats 400000 in
theorem put_pk (g : Nat) (l : List Nat) (hi : Bool) (ob : Option Nat) (hl : l.length ≤ 500000) (x : Int) (hx : In64 x) (n : Nat) (hn : n ≤ 60) (w : World) (h : Pk g l hi ob w) :
    Calls Try.prog 21 #[.pointer (some ⟨g, 0, none⟩), .int .i64 x, .int .i64 (n : Nat)] w fun e w' => e = .returned (.tuple #[]) ∧ Chg (Near g ob) w w' ∧ ∃ ob', Pk g (l ++ numB hi x n) hi ob' w' ∧ Next ob ob' w := by
  obtain ⟨i0, hi0, hz0, hz1, hz2⟩ := info_parts info_int
  go_enter Try.func21, Try.ntmps21
  go_wp2_with fail
  go_loopw [6] (fun c wr => ∃ (k : Nat) (ob' : Option Nat), k ≤ n ∧ c = .int .i64 k ∧ Chg (Near g ob) w wr ∧ Next ob ob' w ∧ Pk g (l ++ (numB hi x n).take k) hi ob' wr) (fun c _ => n - (intOf c).toNat)
  case atStart => exact ⟨0, ob, by omega, rfl, Chg.refl _ _, .inl rfl, by simpa using h⟩
  case round =>
    obtain ⟨k, ob1, hk, rfl, hCh, hNx, hW⟩ := hrel
    by_cases hlt : k < n
    · have hgl := hW.g_lt
      have hnx : l ++ (numB hi x n).take (k + 1) = (l ++ (numB hi x n).take k) ++ [bitX x (if hi = true then n - 1 - k else k)] := by
        rw [List.take_add_one, numB_get hi x n k hlt, Option.toList_some, List.append_assoc]
      have HX := Lib.hid hnx
      have hlen : (l ++ (numB hi x n).take k).length = l.length + k := by simp [numB_len]; omega
      obtain ⟨m, hm⟩ : ∃ m, m = l ++ (numB hi x n).take k := ⟨_, rfl⟩
      rw [← hm] at hlen hW
      have HM := Lib.hid hm
      have hml : m.length ≤ 500000 + n := by omega
      clear hnx hm hlen
      obtain ⟨⟨vo, hb, hown, hob⟩, hne, hl2⟩ := hW
      have HOB := Lib.hid hob
      clear hob
      have c0 := hp_cell (j := 0) hb rfl
      have c1 := hp_cell (j := 1) hb rfl
      have ff := fun j => hp_froz hb j
      cases hi with
      | true =>
        simp only [if_true] at HX
        obtain ⟨q, hq⟩ : ∃ q, q = n - 1 - k := ⟨_, rfl⟩
        rw [← hq] at HX
        have hqe : (n : Int) - 1 - (k : Int) = (q : Int) := by omega
        have hq64 : q < 64 := by omega
        have hbx := bitX_eq x q
        obtain ⟨y, hy⟩ : ∃ y, y = bitX x q := ⟨_, rfl⟩
        have hy2 : y < 2 := by rw [hy]; exact bitX_lt x q
        rw [← hy] at hbx HX
        clear hq hy
        go_wp2_with (at_builtin; refine wpList_append_own_at _ rfl _ _ 31 rfl 0 3 i0 _ 1 8 Try.underlying31 hi0 hz0 hz1 hz2 rfl (by decide) _ _ _ rfl (hown.alloc _) ⟨wr.heap.size, 0, none⟩ 1 1 [.int .i64 (y : Nat)] rfl rfl ?c1 ?c2 ?c3 ?c4 ?c5 ?_)
        case c1 => intro j u hj; cases j with | zero => simp at hj; subst hj; exact hp_cell (j := 0) (hp_new0 wr _) (by simp) | succ j => simp at hj
        case c2 => intro u hu; simp at hu; subst hu; rfl
        case c3 => unfold maxLen; omega
        case c4 => omega
        case c5 => simp
        intro u2 w4 hown' hgrow _ hat
        rw [HOB.out] at hat hgrow
        obtain ⟨_, Au, cu, rfl, hq1, hq2, _⟩ := Sl.of_own hown'
        obtain ⟨u2, hu2⟩ : ∃ u2, u2 = Value.slice Au (m.length + 1) cu := ⟨_, rfl⟩
        rw [← hu2] at hat hown'
        have hb2 := hp_alloc (.cells #[.int .i64 (y : Nat)] 3) hb
        have hb4 := (hgrow.block g (lt_heap hb2) (fun e => hne e.symm)).trans hb2
        have hC4 : Chg (Near g ob1) wr w4 := ((Chg.refl _ wr).alloc _).trans (Chg.grown hgrow (fun r e => by subst e; simp [Near]))
        have hne2 : u2.ownBlock ≠ some g := by
          rcases hat with h | h
          · rw [h]; exact hne
          · rw [h]; simp; omega
        have hs1 := heap_set (i := 0) (x := u2) hb4
        have hk1 := hown'.kept (grown_set w4 g 0 u2) (.inr hne2)
        have hCf := hCh.trans2 (hC4.trans (near_set (ob := ob1) w4 0 u2)) hNx.near
        have hN : Next ob1 u2.ownBlock wr := by
          rcases hat with h | h
          · exact .inl h
          · exact .inr ⟨_, h, by simp⟩
        have hN2 := hNx.trans hN hCh.size
        have H1 := Lib.hid hs1
        have H2 := Lib.hid hk1
        have H3 := Lib.hid hCf
        have H4 := Lib.hid hN2
        have d0 := hp_cell (j := 0) hb4 rfl
        have df := fun j => hp_froz hb4 j
        clear hs1 hk1 hCf hN2 hN hat hgrow hown' hb2 hb4 hC4 c0 c1 ff hown hb
        subst hu2
        go_wp2_with fail
        go_roundw
        case rel =>
          refine ⟨k + 1, _, hlt, by go_num, H3.out, H4.out, ?_⟩
          rw [HX.out, ← HM.out]
          refine ⟨⟨_, H1.out, ?_, rfl⟩, hne2, fun v hv => ?_⟩
          · rw [List.length_append, List.length_singleton, cellsI_snoc]
            exact H2.out
          · rcases List.mem_append.1 hv with h | h
            · exact hl2 v h
            · simp at h
              omega
        case measure => simp [intOf]; omega
      | false =>
        simp only [Bool.false_eq_true, if_false] at HX
        have hq64 : k < 64 := by omega
        have hbx := bitX_eq x k
        obtain ⟨y, hy⟩ : ∃ y, y = bitX x k := ⟨_, rfl⟩
        have hy2 : y < 2 := by rw [hy]; exact bitX_lt x k
        rw [← hy] at hbx HX
        clear hy
        go_wp2_with (at_builtin; refine wpList_append_own_at _ rfl _ _ 31 rfl 0 3 i0 _ 1 8 Try.underlying31 hi0 hz0 hz1 hz2 rfl (by decide) _ _ _ rfl (hown.alloc _) ⟨wr.heap.size, 0, none⟩ 1 1 [.int .i64 (y : Nat)] rfl rfl ?c1 ?c2 ?c3 ?c4 ?c5 ?_)
        case c1 => intro j u hj; cases j with | zero => simp at hj; subst hj; exact hp_cell (j := 0) (hp_new0 wr _) (by simp) | succ j => simp at hj
        case c2 => intro u hu; simp at hu; subst hu; rfl
        case c3 => unfold maxLen; omega
        case c4 => omega
        case c5 => simp
        intro u2 w4 hown' hgrow _ hat
        rw [HOB.out] at hat hgrow
        obtain ⟨_, Au, cu, rfl, hq1, hq2, _⟩ := Sl.of_own hown'
        obtain ⟨u2, hu2⟩ : ∃ u2, u2 = Value.slice Au (m.length + 1) cu := ⟨_, rfl⟩
        rw [← hu2] at hat hown'
        have hb2 := hp_alloc (.cells #[.int .i64 (y : Nat)] 3) hb
        have hb4 := (hgrow.block g (lt_heap hb2) (fun e => hne e.symm)).trans hb2
        have hC4 : Chg (Near g ob1) wr w4 := ((Chg.refl _ wr).alloc _).trans (Chg.grown hgrow (fun r e => by subst e; simp [Near]))
        have hne2 : u2.ownBlock ≠ some g := by
          rcases hat with h | h
          · rw [h]; exact hne
          · rw [h]; simp; omega
        have hs1 := heap_set (i := 0) (x := u2) hb4
        have hk1 := hown'.kept (grown_set w4 g 0 u2) (.inr hne2)
        have hCf := hCh.trans2 (hC4.trans (near_set (ob := ob1) w4 0 u2)) hNx.near
        have hN : Next ob1 u2.ownBlock wr := by
          rcases hat with h | h
          · exact .inl h
          · exact .inr ⟨_, h, by simp⟩
        have hN2 := hNx.trans hN hCh.size
        have H1 := Lib.hid hs1
        have H2 := Lib.hid hk1
        have H3 := Lib.hid hCf
        have H4 := Lib.hid hN2
        have d0 := hp_cell (j := 0) hb4 rfl
        have df := fun j => hp_froz hb4 j
        clear hs1 hk1 hCf hN2 hN hat hgrow hown' hb2 hb4 hC4 c0 c1 ff hown hb
        subst hu2
        go_wp2_with fail
        go_roundw
        case rel =>
          refine ⟨k + 1, _, hlt, by go_num, H3.out, H4.out, ?_⟩
          rw [HX.out, ← HM.out]
          refine ⟨⟨_, H1.out, ?_, rfl⟩, hne2, fun v hv => ?_⟩
          · rw [List.length_append, List.length_singleton, cellsI_snoc]
            exact H2.out
          · rcases List.mem_append.1 hv with h | h
            · exact hl2 v h
            · simp at h
              omega
        case measure => simp [intOf]; omega
    · obtain rfl : n = k := by omega
      rw [List.take_of_length_le (by rw [numB_len]; omega)] at hW
      go_wp2_with fail
      go_end0
      exact ⟨rfl, hCh, ob1, hW, hNx⟩
end Go.Proofs.Ytioghgnngdcicaa
