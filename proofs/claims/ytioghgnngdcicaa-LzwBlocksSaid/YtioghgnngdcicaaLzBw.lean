/- Blocks and Unblock, the program's and the document's. -/
import Derived.Test.YtioghgnngdcicaaLzBp
import Derived.Test.YtioghgnngdcicaaLzG
import Derived.Test.YtioghgnngdcicaaLzBk
namespace Go.Proofs.Ytioghgnngdcicaa
set_option linter.unusedVariables false
open Go.ChangeShapes Go.WideShapes Go.ChangeAt Go.RowKit

def lenS : Value → Nat
  | .slice _ n _ => n
  | _ => 0
/-- What Blocks' loop has. -/
def BlR (w0 : World) (l : List Nat) (s0 s3 : Value) (rest out : List Nat) (w : World) : Prop :=
  (∃ Ar cr, s0 = .slice Ar rest.length cr ∧ rest.length ≤ cr ∧ cr ≤ maxLen ∧ (Ar = none → cr = 0) ∧ Byt w0 Ar rest.length (gz rest)) ∧ w.ownsRow w0.heap.size 5 1 s3 out.length (cellsB out) ∧ Below w0.heap.size w0 w ∧ out ++ blkF rest.length rest = blkF l.length l ∧ rest.length ≤ l.length
/-- A byte and a piece behind a row of one's own. -/
theorem app_blk {W : World} {base : Nat} {v : Value} {out rest : List Nat} {Ar : Option Addr} {cr m B : Nat} (h : W.ownsRow base 5 1 v out.length (cellsB out)) (hx : W.cell? ⟨B, 0, none⟩ = some (.int .u8 (m : Nat))) (ho : out.length ≤ 1000000) (hb : base ≤ W.heap.size)
    (hz : Ar = none → cr = 0) (hm : m ≤ rest.length) (hrl : rest.length ≤ 1000000) (hP : Byt W Ar rest.length (gz rest)) (hA : ∀ a, Ar = some a → a.block < base) :
    ∃ v1 W1 v2 W2, (Builtin.append_ #[22, 22] 22 #[v, .slice (some ⟨B, 0, none⟩) 1 1]).run Try.prog W = .ok v1 W1 ∧ (Builtin.append_ #[22, 22] 22 #[v1, .slice Ar m cr]).run Try.prog W1 = .ok v2 W2 ∧
      W2.ownsRow base 5 1 v2 (out ++ m :: rest.take m).length (cellsB (out ++ m :: rest.take m)) ∧ Below base W W2 := by
  obtain ⟨v1, W1, r1, o1, g1⟩ := app_byteL h hx (by omega) hb
  have b1 := bel_grown (Below.refl base W) g1 (fun r hr => (h.lt r hr).1) hb
  obtain ⟨i0, hi, hz0, hz1, hz2⟩ := info_parts info8
  have hP1 : Byt W1 Ar rest.length (gz rest) := fun hn => by
    obtain ⟨bk, off, rfl, hlt, hc⟩ := hP hn
    have hbk := hA _ rfl
    exact ⟨bk, off, rfl, Nat.lt_of_lt_of_le hlt b1.size, fun j hj => (b1.cell (p := ⟨bk, off + j, none⟩) hbk).trans (hc j hj)⟩
  have hs1 := b1.size
  obtain ⟨v2, W2, r2, o2, g2, _⟩ := run_app (P := Try.prog) (w := W1) base 22 22 5 i0 (.int .u8 0) 1 1 Try.underlying22 hi hz0 hz1 hz2 rfl (by omega) v1 (out ++ [m]).length (cellsB (out ++ [m])) o1
    Ar m cr (cellsB (rest.take m)) hz (by rw [cellsB_len, List.length_take]; omega) (fun hm0 => by
      obtain ⟨bk, off, rfl, hlt, hc⟩ := hP1 (by omega)
      refine ⟨bk, off, rfl, fun j u hj => ?_⟩
      have hjm : j < m := by
        have := (List.getElem?_eq_some_iff.1 hj).1
        rw [cellsB_len, List.length_take] at this
        omega
      rw [hc j (by omega)]
      unfold cellsB at hj
      rw [List.getElem?_map, List.getElem?_take, if_pos hjm, List.getElem?_eq_getElem (by omega)] at hj
      unfold gz
      rw [List.getElem?_eq_getElem (by omega)]
      exact hj) (cellsB_one _) (by unfold maxLen; simp; omega) (by simp; omega) (by omega)
  have e : cellsB (out ++ [m]) ++ cellsB (rest.take m) = cellsB (out ++ m :: rest.take m) := by simp [cellsB]
  rw [e] at o2
  refine ⟨v1, W1, v2, W2, r1, r2, own_len (by simp; omega) o2, bel_grown b1 g2 (fun r hr => (o1.lt r hr).1) (by omega)⟩
set_option maxRecDepth 100000 in
set_option maxHeartbeats 2000000 in
theorem blk_prog (A : Option Addr) (cap : Nat) (l : List Nat) (hl : ∀ v ∈ l, v < 256) (hn : l.length ≤ cap) (hmax : cap ≤ maxLen) (hz : A = none → cap = 0) (hsm : l.length ≤ 100000) (w : World) (hP : Byt w A l.length (gz l)) :
    Calls Try.prog 24 #[.slice A l.length cap] w fun e w' => ∃ A' cap', e = .returned (.slice A' (blkV l).length cap') ∧ NewB w.heap.size w' (blkV l).length A' cap' (gz (blkV l)) ∧ Below w.heap.size w w' := by
  have H0 : Hid (BlR w l (.slice A l.length cap) (.slice none 0 0) l [] w) := Lib.hid ⟨⟨A, cap, rfl, hn, hmax, hz, hP⟩, World.ownsRow_nil _ _ _ _, Below.refl _ _, by simp, Nat.le_refl _⟩
  have HL := Lib.hid hl
  clear hP hn hmax hz hl
  go_enter Try.func24, Try.ntmps24
  go_wp2_with fail
  go_loopw [0, 3] (fun s0 s3 wr => ∃ rest out, BlR w l s0 s3 rest out wr) (fun s0 _ _ => lenS s0)
  case atStart => exact ⟨l, [], H0.out⟩
  case round =>
    clear H0
    obtain ⟨rest, out, ⟨Ar, cr, rfl, q1, q2, q3, hP⟩, hown, hB, heq, hrl⟩ := hrel
    obtain ⟨-, Ao, co, rfl, p1, p2, -⟩ := Sl.of_own hown
    have hol : out.length ≤ 200000 := by
      have h1 := blkF_len l.length l
      have h2 := congrArg List.length heq
      rw [List.length_append] at h2
      omega
    by_cases hne : rest = []
    · subst hne
      rw [blkF_nil, List.append_nil] at heq
      obtain ⟨v2, w2, hr2, ho2, hg2⟩ := app_byteL (x := 0) (B := wr.heap.size) (hown.alloc (.cells #[.int .u8 0] 5)) (hp_cell (j := 0) (hp_new0 wr _) rfl) (by omega) (by have := hB.size; simp; omega)
      have hB2 := bel_grown (hB.alloc hB.size (.cells #[.int .u8 0] 5)) hg2 (fun r hr => (hown.lt r hr).1) (by have := hB.size; simp; omega)
      have hbv : out ++ [0] = blkV l := by rw [heq]; rfl
      rw [hbv] at ho2
      rw [← cells8_gz] at ho2
      obtain ⟨A2, c2, he2, hN2⟩ := NewB.of_own ho2
      subst he2
      have HR2 := Lib.hid hr2
      have HN2 := Lib.hid hN2
      have HB2 := Lib.hid hB2
      clear hr2 ho2 hg2 hB2 hbv hN2 heq hown hB hP
      go_wp2_with (at_builtin; refine wpList_app rfl _ _ 22 rfl _ _ _ _ rfl rfl HR2.out ?_)
      go_ret
      exact ⟨A2, c2, rfl, HN2.out, HB2.out⟩
    · have hp := List.length_pos_iff.2 hne
      obtain ⟨m, hm⟩ : ∃ m, m = min rest.length 255 := ⟨_, rfl⟩
      have hm1 : m ≤ rest.length := by omega
      have hm2 : m ≤ 255 := by omega
      have hm3 : 0 < m := by omega
      have hst := blkF_step (Nat.le_refl _) hne
      have htk : rest.take 255 = rest.take m := by
        rw [hm]
        by_cases hq : rest.length ≤ 255
        · rw [Nat.min_eq_left hq, List.take_of_length_le hq, List.take_length]
        · rw [Nat.min_eq_right (by omega)]
      have hdr : rest.drop 255 = rest.drop m := by
        rw [hm]
        by_cases hq : rest.length ≤ 255
        · rw [Nat.min_eq_left hq, List.drop_of_length_le hq, List.drop_of_length_le (Nat.le_refl _)]
        · rw [Nat.min_eq_right (by omega)]
      rw [htk, hdr, ← hm] at hst
      have hA : ∀ a, Ar = some a → a.block < w.heap.size := fun a ha => by
        obtain ⟨bk, off, he, hlt, _⟩ := hP hp
        rw [ha] at he
        injection he with he
        subst he
        exact hlt
      have hwm : Value.int .u8 (IntKind.u8.wrap (m : Int)) = .int .u8 ((m : Nat) : Int) := by rw [IntKind.wrap_u8']; congr 1; omega
      obtain ⟨v1, W1, v2, W2, r1, r2, o2, b2⟩ := app_blk (W := (wr.alloc (.cells #[.int .u8 (IntKind.u8.wrap (m : Int))] 5)).drew) (base := w.heap.size) (B := wr.heap.size) (m := m) (hown.alloc (.cells #[.int .u8 (IntKind.u8.wrap (m : Int))] 5)) ((hp_cell (j := 0) (hp_new0 wr _) rfl).trans (congrArg some hwm)) (by omega) (by have := hB.size; simp; omega) q3 hm1 (by omega) (hP.below ((hB.alloc hB.size (.cells #[.int .u8 (IntKind.u8.wrap (m : Int))] 5)).drew)) hA
      have hB2 := ((hB.alloc hB.size (.cells #[.int .u8 (IntKind.u8.wrap (m : Int))] 5)).drew).trans b2
      have hP2 := hP.from q1 (q := m) (k := rest.length - m) (by omega)
      have hgd : (fun i => gz rest (m + i)) = gz (rest.drop m) := by
        funext i
        unfold gz
        rw [List.getElem?_drop]
      rw [hgd] at hP2
      have hdl : (rest.drop m).length = rest.length - m := by rw [List.length_drop]
      have HNEW : Hid (BlR w l (.slice (if cr = m then Ar else Ar.map (·.add m)) (rest.length - m) (cr - m)) v2 (rest.drop m) (out ++ m :: rest.take m) W2) :=
        Lib.hid ⟨⟨_, _, by rw [hdl], by rw [hdl]; omega, by omega, nil_from q3, by rw [hdl]; exact hP2⟩, o2, hB2, by rw [← heq, hst]; simp, by rw [hdl]; omega⟩
      have HR1 := Lib.hid r1
      have HR2 := Lib.hid r2
      have RH := run_hi Ar rest.length cr m (by omega)
      have RL := run_lo Ar rest.length cr m (by omega)
      have hmin : min (rest.length : Int) 255 = (m : Int) := by rw [hm]; omega
      have hlen3 : Hid (rest.length - m < rest.length) := Lib.hid (by omega)
      obtain ⟨Z, hZ⟩ : ∃ Z, Z = (if cr = m then Ar else Ar.map (·.add m)) := ⟨_, rfl⟩
      rw [← hZ] at HNEW RL
      have t1 : decide ((0 : Int) < (rest.length : Int)) = true := by simp; omega
      have t2 : decide (0 < rest.length) = true := by simp; omega
      clear hwm hown hB heq hst htk hdr hm hA hP r1 r2 o2 b2 hB2 hP2 hgd hdl hZ
      go_upto_region 3 with fail
      go_cut [4] (fun s4 wx => s4 = .int .i64 (m : Nat) ∧ Hid (wx = wr))
      case first =>
        have HMIN := Lib.hid hmin
        clear hmin
        go_wp2
        all_goals
          go_meet
          exact ⟨by have := HMIN.out; first | rfl | (congr 1; omega), Lib.hid rfl⟩
      case rest =>
      obtain ⟨rfl, hwx⟩ := hcut
      have hwx' := hwx.out
      subst hwx'
      clear hwx
      go_wp2_with fail
      go_region_law (first | ((with_reducible refine step_app (o := ⟨some 15, _, _, _, _, _⟩) ?_ (.tmp 11) (.tmp 14) 22 ?_ _ _ _ _ ?_ ?_ HR1.out ?_); rfl; rfl; rfl; rfl) | ((with_reducible refine step_app (o := ⟨some 19, _, _, _, _, _⟩) ?_ (.tmp 15) (.tmp 18) 22 ?_ _ _ _ _ ?_ ?_ HR2.out ?_); rfl; rfl; rfl; rfl) | fail)
      all_goals
        go_wp2_with fail
        go_roundw
        case rel => exact ⟨_, _, HNEW.out⟩
        case measure => exact hlen3.out
set_option maxRecDepth 100000 in
set_option maxHeartbeats 2000000 in
theorem blk_ref (A : Option Addr) (cap : Nat) (l : List Nat) (hl : ∀ v ∈ l, v < 256) (hn : l.length ≤ cap) (hmax : cap ≤ maxLen) (hz : A = none → cap = 0) (hsm : l.length ≤ 100000) (w : World) (hP : Byt w A l.length (gz l)) :
    Calls Try.prog 27 #[.slice A l.length cap] w fun e w' => ∃ A' cap', e = .returned (.slice A' (blkV l).length cap') ∧ NewB w.heap.size w' (blkV l).length A' cap' (gz (blkV l)) ∧ Below w.heap.size w w' := by
  have H0 : Hid (BlR w l (.slice A l.length cap) (.slice none 0 0) l [] w) := Lib.hid ⟨⟨A, cap, rfl, hn, hmax, hz, hP⟩, World.ownsRow_nil _ _ _ _, Below.refl _ _, by simp, Nat.le_refl _⟩
  have HL := Lib.hid hl
  clear hP hn hmax hz hl
  go_enter Try.func27, Try.ntmps27
  go_wp2_with fail
  go_loopw [0, 3] (fun s0 s3 wr => ∃ rest out, BlR w l s0 s3 rest out wr) (fun s0 _ _ => lenS s0)
  case atStart => exact ⟨l, [], H0.out⟩
  case round =>
    clear H0
    obtain ⟨rest, out, ⟨Ar, cr, rfl, q1, q2, q3, hP⟩, hown, hB, heq, hrl⟩ := hrel
    obtain ⟨-, Ao, co, rfl, p1, p2, -⟩ := Sl.of_own hown
    have hol : out.length ≤ 200000 := by
      have h1 := blkF_len l.length l
      have h2 := congrArg List.length heq
      rw [List.length_append] at h2
      omega
    by_cases hne : rest = []
    · subst hne
      rw [blkF_nil, List.append_nil] at heq
      obtain ⟨v2, w2, hr2, ho2, hg2⟩ := app_byteL (x := 0) (B := wr.heap.size) (hown.alloc (.cells #[.int .u8 0] 5)) (hp_cell (j := 0) (hp_new0 wr _) rfl) (by omega) (by have := hB.size; simp; omega)
      have hB2 := bel_grown (hB.alloc hB.size (.cells #[.int .u8 0] 5)) hg2 (fun r hr => (hown.lt r hr).1) (by have := hB.size; simp; omega)
      have hbv : out ++ [0] = blkV l := by rw [heq]; rfl
      rw [hbv] at ho2
      rw [← cells8_gz] at ho2
      obtain ⟨A2, c2, he2, hN2⟩ := NewB.of_own ho2
      subst he2
      have HR2 := Lib.hid hr2
      have HN2 := Lib.hid hN2
      have HB2 := Lib.hid hB2
      clear hr2 ho2 hg2 hB2 hbv hN2 heq hown hB hP
      go_wp2_with (at_builtin; refine wpList_app rfl _ _ 22 rfl _ _ _ _ rfl rfl HR2.out ?_)
      go_ret
      exact ⟨A2, c2, rfl, HN2.out, HB2.out⟩
    · have hp := List.length_pos_iff.2 hne
      obtain ⟨m, hm⟩ : ∃ m, m = min rest.length 255 := ⟨_, rfl⟩
      have hm1 : m ≤ rest.length := by omega
      have hm2 : m ≤ 255 := by omega
      have hm3 : 0 < m := by omega
      have hst := blkF_step (Nat.le_refl _) hne
      have htk : rest.take 255 = rest.take m := by
        rw [hm]
        by_cases hq : rest.length ≤ 255
        · rw [Nat.min_eq_left hq, List.take_of_length_le hq, List.take_length]
        · rw [Nat.min_eq_right (by omega)]
      have hdr : rest.drop 255 = rest.drop m := by
        rw [hm]
        by_cases hq : rest.length ≤ 255
        · rw [Nat.min_eq_left hq, List.drop_of_length_le hq, List.drop_of_length_le (Nat.le_refl _)]
        · rw [Nat.min_eq_right (by omega)]
      rw [htk, hdr, ← hm] at hst
      have hA : ∀ a, Ar = some a → a.block < w.heap.size := fun a ha => by
        obtain ⟨bk, off, he, hlt, _⟩ := hP hp
        rw [ha] at he
        injection he with he
        subst he
        exact hlt
      have hwm : Value.int .u8 (IntKind.u8.wrap (m : Int)) = .int .u8 ((m : Nat) : Int) := by rw [IntKind.wrap_u8']; congr 1; omega
      obtain ⟨v1, W1, v2, W2, r1, r2, o2, b2⟩ := app_blk (W := (wr.alloc (.cells #[.int .u8 (IntKind.u8.wrap (m : Int))] 5)).drew) (base := w.heap.size) (B := wr.heap.size) (m := m) (hown.alloc (.cells #[.int .u8 (IntKind.u8.wrap (m : Int))] 5)) ((hp_cell (j := 0) (hp_new0 wr _) rfl).trans (congrArg some hwm)) (by omega) (by have := hB.size; simp; omega) q3 hm1 (by omega) (hP.below ((hB.alloc hB.size (.cells #[.int .u8 (IntKind.u8.wrap (m : Int))] 5)).drew)) hA
      have hB2 := ((hB.alloc hB.size (.cells #[.int .u8 (IntKind.u8.wrap (m : Int))] 5)).drew).trans b2
      have hP2 := hP.from q1 (q := m) (k := rest.length - m) (by omega)
      have hgd : (fun i => gz rest (m + i)) = gz (rest.drop m) := by
        funext i
        unfold gz
        rw [List.getElem?_drop]
      rw [hgd] at hP2
      have hdl : (rest.drop m).length = rest.length - m := by rw [List.length_drop]
      have HNEW : Hid (BlR w l (.slice (if cr = m then Ar else Ar.map (·.add m)) (rest.length - m) (cr - m)) v2 (rest.drop m) (out ++ m :: rest.take m) W2) :=
        Lib.hid ⟨⟨_, _, by rw [hdl], by rw [hdl]; omega, by omega, nil_from q3, by rw [hdl]; exact hP2⟩, o2, hB2, by rw [← heq, hst]; simp, by rw [hdl]; omega⟩
      have HR1 := Lib.hid r1
      have HR2 := Lib.hid r2
      have RH := run_hi Ar rest.length cr m (by omega)
      have RL := run_lo Ar rest.length cr m (by omega)
      have hmin : min (rest.length : Int) 255 = (m : Int) := by rw [hm]; omega
      have hlen3 : Hid (rest.length - m < rest.length) := Lib.hid (by omega)
      obtain ⟨Z, hZ⟩ : ∃ Z, Z = (if cr = m then Ar else Ar.map (·.add m)) := ⟨_, rfl⟩
      rw [← hZ] at HNEW RL
      have t1 : decide ((0 : Int) < (rest.length : Int)) = true := by simp; omega
      have t2 : decide (0 < rest.length) = true := by simp; omega
      clear hwm hown hB heq hst htk hdr hm hA hP r1 r2 o2 b2 hB2 hP2 hgd hdl hZ
      go_upto_region 3 with fail
      go_cut [4] (fun s4 wx => s4 = .int .i64 (m : Nat) ∧ Hid (wx = wr))
      case first =>
        have HMIN := Lib.hid hmin
        clear hmin
        go_wp2
        all_goals
          go_meet
          exact ⟨by have := HMIN.out; first | rfl | (congr 1; omega), Lib.hid rfl⟩
      case rest =>
      obtain ⟨rfl, hwx⟩ := hcut
      have hwx' := hwx.out
      subst hwx'
      clear hwx
      go_wp2_with fail
      go_region_law (first | ((with_reducible refine step_app (o := ⟨some 15, _, _, _, _, _⟩) ?_ (.tmp 11) (.tmp 14) 22 ?_ _ _ _ _ ?_ ?_ HR1.out ?_); rfl; rfl; rfl; rfl) | ((with_reducible refine step_app (o := ⟨some 19, _, _, _, _, _⟩) ?_ (.tmp 15) (.tmp 18) 22 ?_ _ _ _ _ ?_ ?_ HR2.out ?_); rfl; rfl; rfl; rfl) | fail)
      all_goals
        go_wp2_with fail
        go_roundw
        case rel => exact ⟨_, _, HNEW.out⟩
        case measure => exact hlen3.out
end Go.Proofs.Ytioghgnngdcicaa
