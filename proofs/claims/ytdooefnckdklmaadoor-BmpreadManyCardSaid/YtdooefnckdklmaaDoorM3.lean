/- Two pictures compared: slices.Equal, raster.Same, engraverref8.Same. engraverref8.At and Set; Set of both, over rows of one's own. Set of both, over rows of one's own. Worlds that turn in few blocks; rows of bytes; a file that is written (beside pictures). -/
import Derived.Test.YtdooefnckdklmaaDoorM2
import Derived.WalkSpells
import Derived.Outline
import Derived.Lib.AppendZerosOnto
namespace Go.Proofs.YtdooefnckdklmaaDoor
set_option maxRecDepth 100000
set_option linter.unusedVariables false
open Go.ChangeShapes Go.WideShapes Go.ChangeAt Go.RowKit

def allEq (n : Nat) (c d : Nat → Nat) : Bool := (List.range n).all fun j => c j == d j
theorem allEq_t {n : Nat} {c d : Nat → Nat} (h : ∀ j, j < n → c j = d j) : allEq n c d = true := by simp [allEq]; exact h
theorem allEq_iff {n : Nat} {c d : Nat → Nat} : allEq n c d = true ↔ ∀ j, j < n → c j = d j := by simp [allEq]
theorem allEq_f {n k : Nat} {c d : Nat → Nat} (hk : k < n) (h : c k ≠ d k) : allEq n c d = false := by
  rw [← Bool.not_eq_true, allEq_iff]
  intro h2
  exact h (h2 k hk)
theorem agree_snoc {k : Nat} {c d : Nat → Nat} (h : ∀ j, j < k → c j = d j) (hk : c k = d k) : ∀ j, j < k + 1 → c j = d j := by
  intro j hj
  by_cases e : j = k
  · subst e; exact hk
  · exact h j (by omega)

def sameB (a b : Int) (n : Nat) (c : Nat → Nat) (a2 b2 : Int) (n2 : Nat) (d : Nat → Nat) : Bool := mayB a b n && (mayB a2 b2 n2 && (decide (a = a2) && (decide (b = b2) && allEq n c d)))
theorem same_cases (a b : Int) (n : Nat) (a2 b2 : Int) (n2 : Nat) : (mayB a b n = false) ∨ (mayB a b n = true ∧ mayB a2 b2 n2 = false) ∨ (mayB a b n = true ∧ mayB a2 b2 n2 = true ∧ ¬a = a2) ∨ (mayB a b n = true ∧ mayB a2 b2 n2 = true ∧ a = a2 ∧ ¬b = b2) ∨ (mayB a b n = true ∧ mayB a2 b2 n2 = true ∧ a = a2 ∧ b = b2 ∧ n = n2) := by
  cases h : mayB a b n
  · exact .inl rfl
  · cases h2 : mayB a2 b2 n2
    · exact .inr (.inl ⟨rfl, rfl⟩)
    · by_cases e : a = a2
      · by_cases e2 : b = b2
        · have h3 := (may_ok h).2
          have h4 := (may_ok h2).2
          subst e e2
          exact .inr (.inr (.inr (.inr ⟨rfl, rfl, rfl, rfl, by omega⟩)))
        · exact .inr (.inr (.inr (.inl ⟨rfl, rfl, e, e2⟩)))
      · exact .inr (.inr (.inl ⟨rfl, rfl, e⟩))

set_option maxRecDepth 100000 in
set_option maxHeartbeats 2000000 in
theorem same_ref (a b : Int) (A : Option Addr) (n cap : Nat) (c : Nat → Nat) (a2 b2 : Int) (A2 : Option Addr) (n2 cap2 : Nat) (d : Nat → Nat) (ha : In64 a) (hb : In64 b) (ha2 : In64 a2) (hb2 : In64 b2) (hn : n ≤ cap) (hmax : cap ≤ maxLen) (hn2 : n2 ≤ cap2) (hmax2 : cap2 ≤ maxLen)
    (w : World) (hP : Pix w A n c) (hP2 : Pix w A2 n2 d) :
    Calls Tryd.prog 17 #[.agg #[.int .i64 a, .int .i64 b, .slice A n cap], .agg #[.int .i64 a2, .int .i64 b2, .slice A2 n2 cap2]] w fun e w' => e = .returned (.bool (sameB a b n c a2 b2 n2 d)) ∧ Below w.heap.size w w' := by
  obtain ⟨q0, q1, q2, q3⟩ := two_boxes w #[.int .i64 a, .int .i64 b, .slice A n cap] #[.int .i64 a2, .int .i64 b2, .slice A2 n2 cap2] 26 26
  have hPa := hP.below q3
  have hPb := hP2.below q3
  clear hP hP2
  rcases same_cases a b n a2 b2 n2 with m1 | ⟨m1, m2⟩ | ⟨m1, m2, e1⟩ | ⟨m1, m2, e1, e2⟩ | ⟨m1, m2, e1, e2, e3⟩
  · have HG := Lib.hid (show sameB a b n c a2 b2 n2 d = false by simp [sameB, m1])
    have M1 := Lib.hid m1
    clear m1
    go_enter Tryd.func17, Tryd.ntmps17
    go_wp2_with fail
    refine (may_ref a b A n cap ha hb hn hmax _).mono ?_
    rintro e w2 ⟨rfl, hB⟩
    rw [M1.out]
    rw [q0] at hB
    have HB := Lib.hid (q3.trans (hB.mono (by omega)))
    clear hB q3
    go_wp2_with fail
    go_ret
    exact ⟨ret_b HG.out.symm, HB.out⟩
  all_goals
    have M1 := Lib.hid m1
    have M2 := Lib.hid m2
    clear m1 m2
  · have HG := Lib.hid (show sameB a b n c a2 b2 n2 d = false by simp [sameB, M2.out])
    go_enter Tryd.func17, Tryd.ntmps17
    go_wp2_with fail
    refine (may_ref a b A n cap ha hb hn hmax _).mono ?_
    rintro e w2 ⟨rfl, hB⟩
    rw [M1.out]
    rw [q0] at hB
    have p0 := hp_below q1 hB (by omega)
    have p1 := hp_below q2 hB (by omega)
    have k0 := hp_cell (j := 0) p0 rfl
    have k1 := hp_cell (j := 1) p0 rfl
    have k2 := hp_cell (j := 2) p0 rfl
    have l0 := hp_cell (j := 0) p1 rfl
    have l1 := hp_cell (j := 1) p1 rfl
    have l2 := hp_cell (j := 2) p1 rfl
    have hs2 := hB.size
    have HB := Lib.hid (q3.trans (hB.mono (by omega)))
    have HPa := Lib.hid (hPa.below (by rw [q0]; exact hB))
    have HPb := Lib.hid (hPb.below (by rw [q0]; exact hB))
    clear hB q1 q2 q3 hPa hPb
    go_wp2_with fail
    refine (may_ref a2 b2 A2 n2 cap2 ha2 hb2 hn2 hmax2 _).mono ?_
    rintro e w3 ⟨rfl, hB⟩
    rw [M2.out]
    have p0 := hp_below p0 hB (by omega)
    have p1 := hp_below p1 hB (by omega)
    have k0 := hp_cell (j := 0) p0 rfl
    have k1 := hp_cell (j := 1) p0 rfl
    have k2 := hp_cell (j := 2) p0 rfl
    have l0 := hp_cell (j := 0) p1 rfl
    have l1 := hp_cell (j := 1) p1 rfl
    have l2 := hp_cell (j := 2) p1 rfl
    have HPa := Lib.hid (HPa.out.below hB)
    have HPb := Lib.hid (HPb.out.below hB)
    have HB := Lib.hid (HB.out.trans (hB.mono HB.out.size))
    clear hB
    go_wp2_with fail
    go_ret
    exact ⟨ret_b HG.out.symm, HB.out⟩
  · have HG := Lib.hid (show sameB a b n c a2 b2 n2 d = false by simp [sameB, e1])
    have t1 : (a == a2) = false := by rw [beq_eq_false_iff_ne]; exact e1
    have t2 : (a != a2) = true := by rw [bne_iff_ne]; exact e1
    clear e1
    go_enter Tryd.func17, Tryd.ntmps17
    go_wp2_with fail
    refine (may_ref a b A n cap ha hb hn hmax _).mono ?_
    rintro e w2 ⟨rfl, hB⟩
    rw [M1.out]
    rw [q0] at hB
    have p0 := hp_below q1 hB (by omega)
    have p1 := hp_below q2 hB (by omega)
    have k0 := hp_cell (j := 0) p0 rfl
    have k1 := hp_cell (j := 1) p0 rfl
    have k2 := hp_cell (j := 2) p0 rfl
    have l0 := hp_cell (j := 0) p1 rfl
    have l1 := hp_cell (j := 1) p1 rfl
    have l2 := hp_cell (j := 2) p1 rfl
    have hs2 := hB.size
    have HB := Lib.hid (q3.trans (hB.mono (by omega)))
    have HPa := Lib.hid (hPa.below (by rw [q0]; exact hB))
    have HPb := Lib.hid (hPb.below (by rw [q0]; exact hB))
    clear hB q1 q2 q3 hPa hPb
    go_wp2_with fail
    refine (may_ref a2 b2 A2 n2 cap2 ha2 hb2 hn2 hmax2 _).mono ?_
    rintro e w3 ⟨rfl, hB⟩
    rw [M2.out]
    have p0 := hp_below p0 hB (by omega)
    have p1 := hp_below p1 hB (by omega)
    have k0 := hp_cell (j := 0) p0 rfl
    have k1 := hp_cell (j := 1) p0 rfl
    have k2 := hp_cell (j := 2) p0 rfl
    have l0 := hp_cell (j := 0) p1 rfl
    have l1 := hp_cell (j := 1) p1 rfl
    have l2 := hp_cell (j := 2) p1 rfl
    have HPa := Lib.hid (HPa.out.below hB)
    have HPb := Lib.hid (HPb.out.below hB)
    have HB := Lib.hid (HB.out.trans (hB.mono HB.out.size))
    clear hB
    go_wp2_with fail
    go_ret
    exact ⟨ret_b HG.out.symm, HB.out⟩
  · have HG := Lib.hid (show sameB a b n c a2 b2 n2 d = false by simp [sameB, e2])
    subst e1
    have t1 : (b == b2) = false := by rw [beq_eq_false_iff_ne]; exact e2
    have t2 : (b != b2) = true := by rw [bne_iff_ne]; exact e2
    clear e2
    go_enter Tryd.func17, Tryd.ntmps17
    go_wp2_with fail
    refine (may_ref a b A n cap ha hb hn hmax _).mono ?_
    rintro e w2 ⟨rfl, hB⟩
    rw [M1.out]
    rw [q0] at hB
    have p0 := hp_below q1 hB (by omega)
    have p1 := hp_below q2 hB (by omega)
    have k0 := hp_cell (j := 0) p0 rfl
    have k1 := hp_cell (j := 1) p0 rfl
    have k2 := hp_cell (j := 2) p0 rfl
    have l0 := hp_cell (j := 0) p1 rfl
    have l1 := hp_cell (j := 1) p1 rfl
    have l2 := hp_cell (j := 2) p1 rfl
    have hs2 := hB.size
    have HB := Lib.hid (q3.trans (hB.mono (by omega)))
    have HPa := Lib.hid (hPa.below (by rw [q0]; exact hB))
    have HPb := Lib.hid (hPb.below (by rw [q0]; exact hB))
    clear hB q1 q2 q3 hPa hPb
    go_wp2_with fail
    refine (may_ref a b2 A2 n2 cap2 ha2 hb2 hn2 hmax2 _).mono ?_
    rintro e w3 ⟨rfl, hB⟩
    rw [M2.out]
    have p0 := hp_below p0 hB (by omega)
    have p1 := hp_below p1 hB (by omega)
    have k0 := hp_cell (j := 0) p0 rfl
    have k1 := hp_cell (j := 1) p0 rfl
    have k2 := hp_cell (j := 2) p0 rfl
    have l0 := hp_cell (j := 0) p1 rfl
    have l1 := hp_cell (j := 1) p1 rfl
    have l2 := hp_cell (j := 2) p1 rfl
    have HPa := Lib.hid (HPa.out.below hB)
    have HPb := Lib.hid (HPb.out.below hB)
    have HB := Lib.hid (HB.out.trans (hB.mono HB.out.size))
    clear hB
    go_wp2_with fail
    go_ret
    exact ⟨ret_b HG.out.symm, HB.out⟩
  · subst e1 e2 e3
    have HG := Lib.hid (show sameB a b n c a b n d = allEq n c d by simp [sameB, M1.out])
    go_enter Tryd.func17, Tryd.ntmps17
    go_wp2_with fail
    refine (may_ref a b A n cap ha hb hn hmax _).mono ?_
    rintro e w2 ⟨rfl, hB⟩
    rw [M1.out]
    rw [q0] at hB
    have p0 := hp_below q1 hB (by omega)
    have p1 := hp_below q2 hB (by omega)
    have k0 := hp_cell (j := 0) p0 rfl
    have k1 := hp_cell (j := 1) p0 rfl
    have k2 := hp_cell (j := 2) p0 rfl
    have l0 := hp_cell (j := 0) p1 rfl
    have l1 := hp_cell (j := 1) p1 rfl
    have l2 := hp_cell (j := 2) p1 rfl
    have hs2 := hB.size
    have HB := Lib.hid (q3.trans (hB.mono (by omega)))
    have HPa := Lib.hid (hPa.below (by rw [q0]; exact hB))
    have HPb := Lib.hid (hPb.below (by rw [q0]; exact hB))
    clear hB q1 q2 q3 hPa hPb
    go_wp2_with fail
    refine (may_ref a b A2 n cap2 ha2 hb2 hn2 hmax2 _).mono ?_
    rintro e w3 ⟨rfl, hB⟩
    rw [M2.out]
    have p0 := hp_below p0 hB (by omega)
    have p1 := hp_below p1 hB (by omega)
    have k0 := hp_cell (j := 0) p0 rfl
    have k1 := hp_cell (j := 1) p0 rfl
    have k2 := hp_cell (j := 2) p0 rfl
    have l0 := hp_cell (j := 0) p1 rfl
    have l1 := hp_cell (j := 1) p1 rfl
    have l2 := hp_cell (j := 2) p1 rfl
    have HPa := Lib.hid (HPa.out.below hB)
    have HPb := Lib.hid (HPb.out.below hB)
    have HB := Lib.hid (HB.out.trans (hB.mono HB.out.size))
    clear hB
    go_wp2_with fail
    have hs3 := (Array.getElem?_eq_some_iff.1 p1).1
    unfold maxLen at hmax hmax2
    go_loopw [5] (fun x wr => ∃ k : Nat, k ≤ n ∧ x = .int .i64 k ∧ (∀ j, j < k → c j = d j) ∧ Below w3.heap.size w3 wr) (fun x _ => n - (intOf x).toNat)
    case atStart => exact ⟨0, by omega, rfl, fun j hj => absurd hj (by omega), Below.refl _ _⟩
    case round =>
      clear k0 k1 k2 l0 l1 l2
      obtain ⟨k, hk, rfl, hag, hB⟩ := hrel
      have HAG := Lib.hid hag
      clear hag
      have o0 := hp_below p0 hB (by omega)
      have o1 := hp_below p1 hB (by omega)
      have k2 := hp_cell (j := 2) o0 rfl
      have l2 := hp_cell (j := 2) o1 rfl
      by_cases hlt : k < n
      · obtain ⟨bk, off, rfl, hbl, hcl⟩ := HPa.out (by omega)
        obtain ⟨bk2, off2, rfl, hbl2, hcl2⟩ := HPb.out (by omega)
        have c0 : wr.cell? ⟨bk, off + k, none⟩ = some (.int .u16 (c k : Nat)) := (hB.cell (p := ⟨bk, off + k, none⟩) hbl).trans (hcl k hlt)
        have c1 : wr.cell? ⟨bk2, off2 + k, none⟩ = some (.int .u16 (d k : Nat)) := (hB.cell (p := ⟨bk2, off2 + k, none⟩) hbl2).trans (hcl2 k hlt)
        clear hcl hcl2
        by_cases he : c k = d k
        · have HS := Lib.hid (agree_snoc HAG.out he)
          have hb : ((c k : Int) == (d k : Int)) = true := by rw [he]; simp
          have hb2 : ((c k : Int) != (d k : Int)) = false := by rw [he]; simp
          clear he
          go_wp2_with fail
          go_quiet (fail)
          go_wp2_with fail
          go_roundw
          case rel => exact ⟨k + 1, by omega, by go_num, HS.out, below_drewN hB _⟩
          case measure => simp [intOf]; omega
        · have HF := Lib.hid (allEq_f hlt he)
          have hb : ((c k : Int) == (d k : Int)) = false := by rw [beq_eq_false_iff_ne]; omega
          have hb2 : ((c k : Int) != (d k : Int)) = true := by rw [bne_iff_ne]; omega
          clear he
          go_wp2_with fail
          go_quiet (fail)
          go_wp2_with fail
          go_ret
          exact ⟨ret_b (by rw [HG.out, HF.out]), HB.out.trans ((below_drewN hB _).mono HB.out.size)⟩
      · obtain rfl : k = n := by omega
        have HF := Lib.hid (allEq_t HAG.out)
        go_wp2_with fail
        go_ret
        exact ⟨ret_b (by rw [HG.out, HF.out]), HB.out.trans (hB.mono HB.out.size)⟩
end Go.Proofs.YtdooefnckdklmaaDoor

namespace Go.Proofs.YtdooefnckdklmaaDoor
set_option maxRecDepth 100000
set_option linter.unusedVariables false
open Go.ChangeShapes Go.WideShapes Go.ChangeAt Go.RowKit

theorem in_cases (a b : Int) (n : Nat) (x y : Int) :
    (mayB a b n = false) ∨ (mayB a b n = true ∧ x < 0) ∨ (mayB a b n = true ∧ 0 ≤ x ∧ y < 0) ∨ (mayB a b n = true ∧ 0 ≤ x ∧ 0 ≤ y ∧ a ≤ x) ∨ (mayB a b n = true ∧ 0 ≤ x ∧ 0 ≤ y ∧ x < a ∧ b ≤ y) ∨ (mayB a b n = true ∧ 0 ≤ x ∧ 0 ≤ y ∧ x < a ∧ y < b) := by
  cases mayB a b n
  · exact .inl rfl
  · simp
    omega
/-- The three boxes of At. -/
theorem three_boxes (w : World) (cs c1 c2 : Array Value) (t t1 t2 : TypeId) : let W := ((w.alloc (.cells cs t)).alloc (.cells c1 t1)).alloc (.cells c2 t2)
    W.heap.size = w.heap.size + 3 ∧ W.heap[w.heap.size]? = some (.cells cs t (0, 0)) ∧ W.heap[w.heap.size + 1]? = some (.cells c1 t1 (0, 0)) ∧ W.heap[w.heap.size + 1 + 1]? = some (.cells c2 t2 (0, 0)) ∧ Below w.heap.size w W := by
  intro W
  have h1 := hp_new0 (w.alloc (.cells cs t)) (.cells c1 t1)
  have h2 := hp_new0 ((w.alloc (.cells cs t)).alloc (.cells c1 t1)) (.cells c2 t2)
  simp only [World.size_alloc] at h1 h2
  exact ⟨by simp [W, World.size_alloc], hp_alloc _ (hp_alloc _ (hp_new0 _ _)), hp_alloc _ h1, h2, (((Below.refl _ w).alloc (Nat.le_refl _) _).alloc (by simp) _).alloc (by simp; omega) _⟩

set_option maxRecDepth 100000 in
set_option maxHeartbeats 2000000 in
theorem get_ref (a b : Int) (A : Option Addr) (n cap : Nat) (c : Nat → Nat) (x y : Int) (ha : In64 a) (hb : In64 b) (hn : n ≤ cap) (hc : cap ≤ maxLen) (w : World) (hP : Pix w A n c) :
    Calls Tryd.prog 19 #[.agg #[.int .i64 a, .int .i64 b, .slice A n cap], .int .i64 x, .int .i64 y] w fun e w' =>
      Below w.heap.size w w' ∧ e = .returned (.tuple #[getV a b n c x y, .bool (inB a b n x y)]) := by
  obtain ⟨q0, q1, q2, q3, q4⟩ := three_boxes w #[.int .i64 a, .int .i64 b, .slice A n cap] #[.int .u16 0, .int .u16 0, .int .u16 0, .int .u16 0] #[.int .u16 0, .int .u16 0, .int .u16 0, .int .u16 0] 26 43 43
  rcases in_cases a b n x y with hm | ⟨hm, h1⟩ | ⟨hm, h1, h2⟩ | ⟨hm, h1, h2, h3⟩ | ⟨hm, h1, h2, h3, h4⟩ | ⟨hm, h1, h2, h3, h4⟩
  case inr.inr.inr.inr.inr =>
    have hr : inB a b n x y = true := by simp [inB, hm]; omega
    obtain ⟨s1, s2, s3, s4, s5⟩ := size_ok (may_ok hm).1
    obtain ⟨m0, m1⟩ := mul_bd y a 256 256 h2 (by omega) (by omega) s2
    obtain ⟨k, hk, hk4, hk5⟩ := in_place hr
    have w1 : wrap64 (y * a) = y * a := IntWalk.wrap64_in _ (by omega)
    have w2' : wrap64 (y * a + x) = (k : Int) := (IntWalk.wrap64_in _ (by omega)).trans hk
    have hgv : getV a b n c x y = px c k := by unfold getV; rw [if_pos hr, hk]; rfl
    have v1 : IntKind.i64.wrap (y * a) = y * a := IntWalk.i64_in _ (by omega)
    have v2 : IntKind.i64.wrap (y * a + x) = (k : Int) := (IntWalk.i64_in _ (by omega)).trans hk
    have v3 : IntKind.i64.wrap (4 * (k : Int)) = 4 * (k : Int) := IntWalk.i64_in _ (by omega)
    obtain ⟨bk, off, rfl, hbk, hcs⟩ := hP (by omega)
    have HG := Lib.hid hgv
    have HR := Lib.hid hr
    have HM := Lib.hid hm
    clear hgv hr hm m0 m1 s1 s2 s3 s4 s5
    go_enter Tryd.func19, Tryd.ntmps19
    go_wp2_with fail
    refine (may_ref a b _ n cap ha hb hn hc _).mono ?_
    rintro e u1 ⟨rfl, hB⟩
    rw [HM.out]
    rw [q0] at hB
    have p0 := hp_below q1 hB (by omega)
    have p1 := hp_below q2 hB (by omega)
    have p2 := hp_below q3 hB (by omega)
    have k0 := hp_cell (j := 0) p0 rfl
    have k1 := hp_cell (j := 1) p0 rfl
    have k2 := hp_cell (j := 2) p0 rfl
    have hBw := q4.trans (hB.mono (by omega))
    unfold maxLen at hc
    have hcp : ∀ j, j < 4 → u1.drew.cell? ⟨bk, off + 4 * k + j, none⟩ = (cP (p4 c k))[j]? := fun j hj => by
      have h1 := (hBw.cell (p := ⟨bk, off + (4 * k + j), none⟩) hbk).trans (hcs (4 * k + j) (by omega))
      rw [← Nat.add_assoc] at h1
      have h2 : u1.drew.cell? ⟨bk, off + 4 * k + j, none⟩ = u1.cell? ⟨bk, off + 4 * k + j, none⟩ := rfl
      rw [h2, h1]
      obtain rfl | rfl | rfl | rfl : j = 0 ∨ j = 1 ∨ j = 2 ∨ j = 3 := by omega
      all_goals rfl
    have p2d : u1.drew.heap[w.heap.size + 1 + 1]? = some (.cells #[.int .u16 0, .int .u16 0, .int .u16 0, .int .u16 0] 43 (0, 0)) := p2
    have hrun := run_copy_row (P := Tryd.prog) u1.drew 24 24 3 42 (w.heap.size + 1 + 1) 0 4 4 ⟨bk, off + 4 * k, none⟩ (n - 4 * k) (cap - 4 * k) _ _ (cP (p4 c k)) Tryd.underlying24 size38 p2d
        (show 4 = Nat.min (n - 4 * k) 4 from (Nat.min_eq_right (by omega)).symm)
        (by
          intro j v hj
          have hj4 : j < 4 := by have := (List.getElem?_eq_some_iff.1 hj).1; simpa [cP] using this
          rw [Addr.add_lit]
          exact (hcp j hj4).trans hj) (by simp [cP]) (cP_one _)
    change _ = Result.ok _ (u1.drew.setRow (w.heap.size + 1 + 1) (cP (p4 c k)).toArray) at hrun
    have hb2 : Below w.heap.size w (u1.drew.setRow (w.heap.size + 1 + 1) (cP (p4 c k)).toArray) := below_setRow hBw.drew (by omega) _
    have hh2 : (u1.drew.setRow (w.heap.size + 1 + 1) (cP (p4 c k)).toArray).heap[w.heap.size + 1 + 1]? = some (.cells (cP (p4 c k)).toArray 43 (0, 0)) := setRow_heap _ _ _ _ _ _ p2d
    have hh1 : (u1.drew.setRow (w.heap.size + 1 + 1) (cP (p4 c k)).toArray).heap[w.heap.size + 1]? = some (.cells #[.int .u16 0, .int .u16 0, .int .u16 0, .int .u16 0] 43 (0, 0)) := ((grown_setRow _ _ _).block _ (Array.getElem?_eq_some_iff.1 p1).1 (fun e => by injection e; omega)).trans p1
    have HB2 := Lib.hid hb2
    have HH1 := Lib.hid hh1
    have HH2 := Lib.hid hh2
    have hck : ¬cap = 4 * k := by omega
    have hlI : (4 : Int) * (k : Int) + 4 ≤ (n : Int) := by omega
    have hkn : (0 : Int) ≤ (k : Int) := by omega
    clear hB q0 q1 q2 q3 q4 p0 p1 p2 p2d hBw hcp hcs hb2 hh1 hh2 hk hk5
    go_wp2_with fail
    go_region
    generalize u1.drew.setRow (w.heap.size + 1 + 1) (cP (p4 c k)).toArray = W2 at *
    have l0 := hp_cell (j := 0) HH1.out rfl
    have l1 := hp_cell (j := 1) HH1.out rfl
    have l2 := hp_cell (j := 2) HH1.out rfl
    have l3 := hp_cell (j := 3) HH1.out rfl
    have lf : ∀ j, W2.frozen? ⟨w.heap.size + 1, j, none⟩ = false := fun j => by simp [World.frozen?, HH1.out]
    have g0 : W2.cell? ⟨w.heap.size + 1 + 1, 0, none⟩ = some (.int .u16 (c (4 * k) : Nat)) := hp_cell (j := 0) HH2.out rfl
    have g1 : W2.cell? ⟨w.heap.size + 1 + 1, 1, none⟩ = some (.int .u16 (c (4 * k + 1) : Nat)) := hp_cell (j := 1) HH2.out rfl
    have g2 : W2.cell? ⟨w.heap.size + 1 + 1, 2, none⟩ = some (.int .u16 (c (4 * k + 2) : Nat)) := hp_cell (j := 2) HH2.out rfl
    have g3 : W2.cell? ⟨w.heap.size + 1 + 1, 3, none⟩ = some (.int .u16 (c (4 * k + 3) : Nat)) := hp_cell (j := 3) HH2.out rfl
    go_wp2
    refine bodyPost_ret (v := .tuple #[px c k, .bool true]) (by rw [results_cell_tmp rfl]; unfold px; go_simp) rfl ?_
    refine ⟨?_, by rw [HG.out, HR.out]⟩
    exact (((HB2.out.setCell (p := ⟨w.heap.size + 1, 0, none⟩) (by simp) _).setCell (p := ⟨w.heap.size + 1, 1, none⟩) (by simp) _).setCell (p := ⟨w.heap.size + 1, 2, none⟩) (by simp) _).setCell (p := ⟨w.heap.size + 1, 3, none⟩) (by simp) _
  all_goals
    have hr : inB a b n x y = false := by first | (simp [inB, hm]; done) | (simp [inB, hm]; omega)
    have hgv : getV a b n c x y = zero4 := by unfold getV; rw [hr]; rfl
    have HG := Lib.hid hgv
    have HR := Lib.hid hr
    have HM := Lib.hid hm
    clear hgv hr hm hP
    go_enter Tryd.func19, Tryd.ntmps19
    go_wp2_with fail
    refine (may_ref a b _ n cap ha hb hn hc _).mono ?_
    rintro e u1 ⟨rfl, hB⟩
    rw [HM.out]
    rw [q0] at hB
    have p0 := hp_below q1 hB (by omega)
    have p1 := hp_below q2 hB (by omega)
    have p2 := hp_below q3 hB (by omega)
    have k0 := hp_cell (j := 0) p0 rfl
    have k1 := hp_cell (j := 1) p0 rfl
    have k2 := hp_cell (j := 2) p0 rfl
    have l0 := hp_cell (j := 0) p1 rfl
    have l1 := hp_cell (j := 1) p1 rfl
    have l2 := hp_cell (j := 2) p1 rfl
    have l3 := hp_cell (j := 3) p1 rfl
    have lf : ∀ j, u1.frozen? ⟨w.heap.size + 1, j, none⟩ = false := fun j => by simp [World.frozen?, p1]
    have g0 := hp_cell (j := 0) p2 rfl
    have g1 := hp_cell (j := 1) p2 rfl
    have g2 := hp_cell (j := 2) p2 rfl
    have g3 := hp_cell (j := 3) p2 rfl
    have HB := Lib.hid (q4.trans (hB.mono (by omega)))
    clear hB q0 q1 q2 q3 q4 p0 p1 p2
    go_wp2
    refine bodyPost_ret (v := .tuple #[zero4, .bool false]) (by rw [results_cell_tmp rfl]; unfold zero4; go_simp) rfl ?_
    refine ⟨?_, by rw [HG.out, HR.out]⟩
    exact (((HB.out.setCell (p := ⟨w.heap.size + 1, 0, none⟩) (by simp) _).setCell (p := ⟨w.heap.size + 1, 1, none⟩) (by simp) _).setCell (p := ⟨w.heap.size + 1, 2, none⟩) (by simp) _).setCell (p := ⟨w.heap.size + 1, 3, none⟩) (by simp) _
end Go.Proofs.YtdooefnckdklmaaDoor

namespace Go.Proofs.YtdooefnckdklmaaDoor
set_option maxRecDepth 100000
set_option linter.unusedVariables false
open Go.ChangeShapes Go.WideShapes Go.ChangeAt Go.RowKit

set_option maxRecDepth 100000 in
set_option maxHeartbeats 2000000 in
theorem setr_yes (a b : Int) (g n cap : Nat) (x y : Int) (p0 p1 p2 p3 : Nat) (ha : In64 a) (hb : In64 b) (hn : n ≤ cap) (hc : cap ≤ maxLen) (w : World) (cur : Array Value) (hg : w.heap[g]? = some (.cells cur 42 (0, 0))) (hcur : n ≤ cur.size) (k : Nat) (hr : inB a b n x y = true) (hk : y * a + x = (k : Int)) (hk4 : 4 * k + 4 ≤ n) :
    Calls Tryd.prog 31 #[.agg #[.int .i64 a, .int .i64 b, .slice (some ⟨g, 0, none⟩) n cap], .int .i64 x, .int .i64 y, .agg #[.int .u16 (p0 : Nat), .int .u16 (p1 : Nat), .int .u16 (p2 : Nat), .int .u16 (p3 : Nat)]] w fun e w' =>
      e = .returned (.bool true) ∧ w.grownBy w' (some g) ∧ w'.heap[g]? = some (.cells (setCur cur k (pix4 p0 p1 p2 p3)) 42 (0, 0)) := by
  have hgl : g < w.heap.size := (Array.getElem?_eq_some_iff.1 hg).1
  obtain ⟨q0, q1, q2, q4⟩ := two_boxes w #[.int .i64 a, .int .i64 b, .slice (some ⟨g, 0, none⟩) n cap] #[.int .u16 (p0 : Nat), .int .u16 (p1 : Nat), .int .u16 (p2 : Nat), .int .u16 (p3 : Nat)] 26 43
  obtain ⟨hm, i1, i2, i3, i4⟩ := in_ok hr
  obtain ⟨s1, s2, s3, s4, s5⟩ := size_ok (may_ok hm).1
  obtain ⟨m0, m1⟩ := mul_bd y a 256 256 i3 (by omega) (by omega) s2
  have w1 : wrap64 (y * a) = y * a := IntWalk.wrap64_in _ (by omega)
  have w2' : wrap64 (y * a + x) = (k : Int) := (IntWalk.wrap64_in _ (by omega)).trans hk
  have v1 : IntKind.i64.wrap (y * a) = y * a := IntWalk.i64_in _ (by omega)
  have v2 : IntKind.i64.wrap (y * a + x) = (k : Int) := (IntWalk.i64_in _ (by omega)).trans hk
  have hk5 : (k : Int) ≤ 131072 := by omega
  have v3 : IntKind.i64.wrap (4 * (k : Int)) = 4 * (k : Int) := IntWalk.i64_in _ (by omega)
  have v4 : IntKind.i64.wrap (4 * (k : Int) + 4) = 4 * (k : Int) + 4 := IntWalk.i64_in _ (by omega)
  have HM := Lib.hid hm
  clear hm hr m0 m1 s1 s2 s3 s4 s5
  go_enter Tryd.func31, Tryd.ntmps31
  go_wp2_with fail
  refine (may_ref a b _ n cap ha hb hn hc _).mono ?_
  rintro e u1 ⟨rfl, hB⟩
  rw [HM.out]
  rw [q0] at hB
  have r0 := hp_below q1 hB (by omega)
  have r1 := hp_below q2 hB (by omega)
  have k0 := hp_cell (j := 0) r0 rfl
  have k1 := hp_cell (j := 1) r0 rfl
  have k2 := hp_cell (j := 2) r0 rfl
  have hB0 := q4.trans (hB.mono (by omega))
  have hg1 := hp_below hg hB0 hgl
  unfold maxLen at hc
  have hrun := run_copy_row (P := Tryd.prog) u1.drew 24 24 3 42 g (4 * k) 4 (cap - 4 * k) ⟨w.heap.size + 1, 0, none⟩ 4 4 cur _ (pix4 p0 p1 p2 p3) Tryd.underlying24 size38 hg1 (show 4 = Nat.min 4 4 from rfl)
    (by
      intro j v hj
      match j, hj with
      | 0, hj => exact (hp_cell (j := 0) r1 rfl).trans hj
      | 1, hj => exact (hp_cell (j := 1) r1 rfl).trans hj
      | 2, hj => exact (hp_cell (j := 2) r1 rfl).trans hj
      | 3, hj => exact (hp_cell (j := 3) r1 rfl).trans hj) (by simp [pix4]; omega) (by simp [pix4, Value.oneCell'])
  have hgr : w.grownBy (u1.drew.setRow g (setCur cur k (pix4 p0 p1 p2 p3))) (some g) := ((grown_of_below hB0 _).trans (grown_drewS _ _)).trans (grown_setRow _ _ _)
  have hgh : (u1.drew.setRow g (setCur cur k (pix4 p0 p1 p2 p3))).heap[g]? = some (.cells (setCur cur k (pix4 p0 p1 p2 p3)) 42 (0, 0)) := setRow_heap _ _ _ _ _ _ hg1
  have HG := Lib.hid hgr
  have HH := Lib.hid hgh
  have hl4 : (pix4 p0 p1 p2 p3).length = 4 := rfl
  change _ = Result.ok _ (u1.drew.setRow g (setCur cur k (pix4 p0 p1 p2 p3))) at hrun
  rw [hl4] at hrun
  have hck : ¬cap = 4 * k := by omega
  have hlI : (4 : Int) * (k : Int) + 4 ≤ (n : Int) := by omega
  have hlC : (4 : Int) * (k : Int) + 4 ≤ (cap : Int) := by omega
  have hkn : (0 : Int) ≤ (k : Int) := by omega
  clear hB hB0 q0 q1 q2 q4 r0 r1 hg hg1 hgr hgh hl4 hk
  go_wp2_with fail
  go_region
  go_wp2
  go_ret
  exact ⟨rfl, HG.out, HH.out⟩

set_option maxRecDepth 100000 in
set_option maxHeartbeats 2000000 in
theorem setr_no (a b : Int) (A : Option Addr) (n cap : Nat) (x y : Int) (p0 p1 p2 p3 : Nat) (ha : In64 a) (hb : In64 b) (hn : n ≤ cap) (hc : cap ≤ maxLen) (w : World) (hr : inB a b n x y = false) :
    Calls Tryd.prog 31 #[.agg #[.int .i64 a, .int .i64 b, .slice A n cap], .int .i64 x, .int .i64 y, .agg #[.int .u16 (p0 : Nat), .int .u16 (p1 : Nat), .int .u16 (p2 : Nat), .int .u16 (p3 : Nat)]] w fun e w' =>
      e = .returned (.bool false) ∧ Below w.heap.size w w' := by
  obtain ⟨q0, q1, q2, q4⟩ := two_boxes w #[.int .i64 a, .int .i64 b, .slice A n cap] #[.int .u16 (p0 : Nat), .int .u16 (p1 : Nat), .int .u16 (p2 : Nat), .int .u16 (p3 : Nat)] 26 43
  rcases in_cases a b n x y with hm | ⟨hm, h1⟩ | ⟨hm, h1, h2⟩ | ⟨hm, h1, h2, h3⟩ | ⟨hm, h1, h2, h3, h4⟩ | ⟨hm, h1, h2, h3, h4⟩
  case inr.inr.inr.inr.inr =>
    exfalso
    simp [inB, hm] at hr
    omega
  all_goals
    have HM := Lib.hid hm
    clear hr hm
    go_enter Tryd.func31, Tryd.ntmps31
    go_wp2_with fail
    refine (may_ref a b _ n cap ha hb hn hc _).mono ?_
    rintro e u1 ⟨rfl, hB⟩
    rw [HM.out]
    rw [q0] at hB
    have r0 := hp_below q1 hB (by omega)
    have k0 := hp_cell (j := 0) r0 rfl
    have k1 := hp_cell (j := 1) r0 rfl
    have k2 := hp_cell (j := 2) r0 rfl
    have HB := Lib.hid (q4.trans (hB.mono (by omega)))
    clear hB q0 q1 q2 q4 r0
    go_wp2
    go_ret
    exact ⟨rfl, HB.out⟩

/-! ### Set over a row of one's own -/
def setC (c : Nat → Nat) (k : Nat) (p : P4) (j : Nat) : Nat := if j = 4 * k then p.1 else if j = 4 * k + 1 then p.2.1 else if j = 4 * k + 2 then p.2.2.1 else if j = 4 * k + 3 then p.2.2.2 else c j
def setD (a b : Int) (n : Nat) (c : Nat → Nat) (x y : Int) (p : P4) : Nat → Nat := if inB a b n x y = true then setC c (y * a + x).toNat p else c
theorem setC_lt {c : Nat → Nat} (hc : ∀ i, c i < 65536) (k : Nat) {p : P4} (hp : w4 p) (i : Nat) : setC c k p i < 65536 := by
  obtain ⟨h1, h2, h3, h4⟩ := hp
  have := hc i
  unfold setC
  (repeat' split) <;> omega
theorem setD_lt {a b : Int} {n : Nat} {c : Nat → Nat} (hc : ∀ i, c i < 65536) (x y : Int) {p : P4} (hp : w4 p) (i : Nat) : setD a b n c x y p i < 65536 := by
  unfold setD
  split
  · exact setC_lt hc _ hp i
  · exact hc i
theorem setCur_own {n : Nat} {cur : Array Value} {c : Nat → Nat} (h : ∀ j, j < n → cur[j]? = some (.int .u16 (c j : Nat))) (hs : n ≤ cur.size) (k : Nat) (hk : 4 * k + 4 ≤ n) (p : P4) (j : Nat) (hj : j < n) :
    (setCur cur k (pix4 p.1 p.2.1 p.2.2.1 p.2.2.2))[j]? = some (.int .u16 (setC c k p j : Nat)) := by
  by_cases h1 : 4 * k ≤ j ∧ j < 4 * k + 4
  · obtain ⟨d, rfl⟩ := Nat.le.dest h1.1
    rw [setCur_in _ _ _ (by simp [pix4]; omega) _ (by simp [pix4]; omega)]
    obtain rfl | rfl | rfl | rfl : d = 0 ∨ d = 1 ∨ d = 2 ∨ d = 3 := by omega
    · simp [pix4, setC]
    · simp [pix4, setC]
    · simp [pix4, setC]
    · simp [pix4, setC]
  · rw [setCur_out _ _ _ (by simp [pix4]; omega) _ (by simp [pix4]; omega), h j hj]
    have : setC c k p j = c j := by unfold setC; rw [if_neg (by omega), if_neg (by omega), if_neg (by omega), if_neg (by omega)]
    rw [this]
/-- What a Set leaves. -/
def setPost (B : Nat) (a b : Int) (A : Option Addr) (n : Nat) (c : Nat → Nat) (x y : Int) (p : P4) (w : World) (e : Ending) (w' : World) : Prop :=
  e = .returned (.bool (inB a b n x y)) ∧ (B ≤ w.heap.size → Below B w w') ∧ (∀ g o, w.heap[g]? = some o → (∀ k, 0 < n → A = some ⟨k, 0, none⟩ → k ≠ g) → w'.heap[g]? = some o) ∧ Own B w' A n (setD a b n c x y p)
theorem set_any_of {a b : Int} {A : Option Addr} {n cap : Nat} {c : Nat → Nat} {x y : Int} {p : P4} {f : FuncId} {w : World} {B : Nat} (hO : Own B w A n c)
    (yes : ∀ (g : Nat) (cur : Array Value) (k : Nat), A = some ⟨g, 0, none⟩ → w.heap[g]? = some (.cells cur 42 (0, 0)) → n ≤ cur.size → inB a b n x y = true → y * a + x = (k : Int) → 4 * k + 4 ≤ n →
      Calls Tryd.prog f #[.agg #[.int .i64 a, .int .i64 b, .slice A n cap], .int .i64 x, .int .i64 y, .agg #[.int .u16 (p.1 : Nat), .int .u16 (p.2.1 : Nat), .int .u16 (p.2.2.1 : Nat), .int .u16 (p.2.2.2 : Nat)]] w fun e w' =>
        e = .returned (.bool true) ∧ w.grownBy w' (some g) ∧ w'.heap[g]? = some (.cells (setCur cur k (pix4 p.1 p.2.1 p.2.2.1 p.2.2.2)) 42 (0, 0)))
    (no : inB a b n x y = false → Calls Tryd.prog f #[.agg #[.int .i64 a, .int .i64 b, .slice A n cap], .int .i64 x, .int .i64 y, .agg #[.int .u16 (p.1 : Nat), .int .u16 (p.2.1 : Nat), .int .u16 (p.2.2.1 : Nat), .int .u16 (p.2.2.2 : Nat)]] w fun e w' =>
        e = .returned (.bool false) ∧ Below w.heap.size w w') :
    Calls Tryd.prog f #[.agg #[.int .i64 a, .int .i64 b, .slice A n cap], .int .i64 x, .int .i64 y, .agg #[.int .u16 (p.1 : Nat), .int .u16 (p.2.1 : Nat), .int .u16 (p.2.2.1 : Nat), .int .u16 (p.2.2.2 : Nat)]] w (setPost B a b A n c x y p w) := by
  cases hr : inB a b n x y with
  | true =>
    obtain ⟨k, hk, hk4, _⟩ := in_place hr
    obtain ⟨g, cur, rfl, hB, hg, hs, hcl⟩ := hO (by omega)
    refine (yes g cur k rfl hg hs hr hk hk4).mono ?_
    rintro e w' ⟨rfl, hgr, hg'⟩
    refine ⟨by rw [hr], fun h => (Below.refl _ _).grown hgr h (fun k e => by injection e with e; omega), fun k o hk2 hne => (hgr.block k (Array.getElem?_eq_some_iff.1 hk2).1 (fun e => by injection e with e; exact hne g (by omega) rfl e.symm)).trans hk2, fun hn => ⟨g, _, rfl, hB, hg', ?_, fun j hj => ?_⟩⟩
    · rw [setCur_size _ _ _ (by simp [pix4]; omega)]; exact hs
    · have e1 : setD a b n c x y p = setC c k p := by unfold setD; rw [if_pos hr, hk]; rfl
      rw [e1]
      exact setCur_own hcl hs k hk4 p j hj
  | false =>
    refine (no hr).mono ?_
    rintro e w' ⟨rfl, hb⟩
    refine ⟨by rw [hr], fun h => hb.mono h, fun k o hk2 _ => hp_below hk2 hb (Array.getElem?_eq_some_iff.1 hk2).1, ?_⟩
    have e1 : setD a b n c x y p = c := by unfold setD; rw [if_neg (by simp [hr])]
    rw [e1]
    exact hO.below hb
theorem set_any (a b : Int) (A : Option Addr) (n cap : Nat) (c : Nat → Nat) (x y : Int) (p : P4) (ha : In64 a) (hb : In64 b) (hn : n ≤ cap) (hc : cap ≤ maxLen) (w : World) {B : Nat} (hO : Own B w A n c) :
    Calls Tryd.prog 60 #[.agg #[.int .i64 a, .int .i64 b, .slice A n cap], .int .i64 x, .int .i64 y, .agg #[.int .u16 (p.1 : Nat), .int .u16 (p.2.1 : Nat), .int .u16 (p.2.2.1 : Nat), .int .u16 (p.2.2.2 : Nat)]] w (setPost B a b A n c x y p w) := by
  refine set_any_of hO ?_ (fun h => set_no a b A n cap x y p.1 p.2.1 p.2.2.1 p.2.2.2 ha hb hn hc w h)
  rintro g cur k rfl h1 h2 h3 h4 h5
  exact set_prog a b g n cap x y p.1 p.2.1 p.2.2.1 p.2.2.2 ha hb hn hc w cur h1 h2 k h3 h4 h5
theorem setr_any (a b : Int) (A : Option Addr) (n cap : Nat) (c : Nat → Nat) (x y : Int) (p : P4) (ha : In64 a) (hb : In64 b) (hn : n ≤ cap) (hc : cap ≤ maxLen) (w : World) {B : Nat} (hO : Own B w A n c) :
    Calls Tryd.prog 31 #[.agg #[.int .i64 a, .int .i64 b, .slice A n cap], .int .i64 x, .int .i64 y, .agg #[.int .u16 (p.1 : Nat), .int .u16 (p.2.1 : Nat), .int .u16 (p.2.2.1 : Nat), .int .u16 (p.2.2.2 : Nat)]] w (setPost B a b A n c x y p w) := by
  refine set_any_of hO ?_ (fun h => setr_no a b A n cap x y p.1 p.2.1 p.2.2.1 p.2.2.2 ha hb hn hc w h)
  rintro g cur k rfl h1 h2 h3 h4 h5
  exact setr_yes a b g n cap x y p.1 p.2.1 p.2.2.1 p.2.2.2 ha hb hn hc w cur h1 h2 k h3 h4 h5
end Go.Proofs.YtdooefnckdklmaaDoor

namespace Go.Proofs.YtdooefnckdklmaaDoor
set_option maxRecDepth 100000
set_option linter.unusedVariables false
open Go.ChangeShapes Go.WideShapes Go.ChangeAt Go.RowKit

/-- What lay in w lies in w', but for the blocks S. -/
structure Chg (S : List Nat) (w w' : World) : Prop where
  os : w'.os = w.os
  tape : w'.tape = w.tape
  output : w'.output = w.output
  size : w.heap.size ≤ w'.heap.size
  block : ∀ k, k < w.heap.size → k ∉ S → w'.heap[k]? = w.heap[k]?
section
variable {S : List Nat} {w w' w'' : World}
theorem Chg.refl (S : List Nat) (w : World) : Chg S w w := ⟨rfl, rfl, rfl, Nat.le_refl _, fun _ _ _ => rfl⟩
theorem Chg.trans (h : Chg S w w') (k : Chg S w' w'') : Chg S w w'' :=
  ⟨k.os.trans h.os, k.tape.trans h.tape, k.output.trans h.output, Nat.le_trans h.size k.size, fun i hi hs => (k.block i (Nat.lt_of_lt_of_le hi h.size) hs).trans (h.block i hi hs)⟩
theorem Chg.mono {T : List Nat} (h : Chg S w w') (hs : ∀ k ∈ S, k ∈ T) : Chg T w w' := ⟨h.os, h.tape, h.output, h.size, fun i hi hn => h.block i hi (fun hm => hn (hs i hm))⟩
theorem Chg.of_below (h : Below w.heap.size w w') : Chg S w w' := ⟨h.os, h.tape, h.output, h.size, fun i hi _ => h.block i hi⟩
theorem Chg.below {B : Nat} (h : Chg S w w') (hB : B ≤ w.heap.size) (hs : ∀ k ∈ S, B ≤ k) : Below B w w' :=
  ⟨h.os, h.tape, h.output, h.size, fun i hi => h.block i (by omega) (fun hm => by have := hs i hm; omega)⟩
theorem Chg.drew (h : Chg S w w') : Chg S w w'.drew := ⟨h.os, h.tape, h.output, h.size, h.block⟩
theorem Chg.drewN (h : Chg S w w') (n : Nat) : Chg S w (w'.drewN n) := ⟨h.os, h.tape, h.output, h.size, h.block⟩
theorem Chg.alloc (h : Chg S w w') (o : Obj) : Chg S w (w'.alloc o) :=
  h.trans (Chg.of_below ((Below.refl _ w').alloc (Nat.le_refl _) o))
theorem Chg.set (h : Chg S w w') {g : Nat} (hg : g ∈ S ∨ w.heap.size ≤ g) (i : Nat) (v : Value) : Chg S w (w'.setCell ⟨g, i, none⟩ v) := by
  refine ⟨h.os, h.tape, h.output, by simpa [World.setCell] using h.size, fun k hk hn => ?_⟩
  have hne : k ≠ g := by
    rintro rfl
    rcases hg with hg | hg
    · exact hn hg
    · omega
  exact (Below.heap_setCell w' _ v k hne).trans (h.block k hk hn)
theorem Chg.grown {row : Option Nat} (h : w.grownBy w' row) (hr : ∀ r, row = some r → r ∈ S) : Chg S w w' :=
  ⟨h.os, h.tape, h.output, h.size, fun k hk hn => h.block k hk (fun e => hn (hr k e.symm))⟩
end
theorem lt_heap {W : World} {k : Nat} {o : Obj} (h : W.heap[k]? = some o) : k < W.heap.size := (Array.getElem?_eq_some_iff.1 h).1
theorem hp_chg {S : List Nat} {B : Nat} {W W' : World} {o : Obj} (h : W.heap[B]? = some o) (hb : Chg S W W') (hn : B ∉ S) : W'.heap[B]? = some o := (hb.block B (lt_heap h) hn).trans h
theorem hp_froz {W : World} {B : Nat} {cs : Array Value} {t : TypeId} (h : W.heap[B]? = some (.cells cs t (0, 0))) (j : Nat) : W.frozen? ⟨B, j, none⟩ = false := by simp [World.frozen?, h]
theorem heap_set {W : World} {b i : Nat} {x : Value} {cs : Array Value} {t : TypeId} (h : W.heap[b]? = some (.cells cs t (0, 0))) : (W.setCell ⟨b, i, none⟩ x).heap[b]? = some (.cells (cs.setIfInBounds i x) t (0, 0)) := by
  have hl := (Array.getElem?_eq_some_iff.1 h).1
  have he := (Array.getElem?_eq_some_iff.1 h).2
  unfold World.setCell
  simp [hl, he, Array.getElem_modify]
theorem hp_oth {W : World} {B g i : Nat} {v : Value} {o : Obj} (h : W.heap[B]? = some o) (hne : ¬B = g) : (W.setCell ⟨g, i, none⟩ v).heap[B]? = some o := (Below.heap_setCell W _ v B hne).trans h
theorem hp_newk {w : World} {o : Obj} {k : Nat} (hk : w.heap.size = k) : (w.alloc o).heap[k]? = some o := hk ▸ hp_new0 w o
theorem hp_drew {W : World} {b : Nat} {o : Option Obj} (h : W.heap[b]? = o) : W.drew.heap[b]? = o := h
def Byt (w : World) (A : Option Addr) (m : Nat) (d : Nat → Nat) : Prop :=
  0 < m → ∃ bk off, A = some ⟨bk, off, none⟩ ∧ bk < w.heap.size ∧ ∀ j, j < m → w.cell? ⟨bk, off + j, none⟩ = some (.int .u8 (d j : Nat))
theorem Byt.below {w w' : World} {A : Option Addr} {n : Nat} {c : Nat → Nat} (h : Byt w A n c) (hb : Below w.heap.size w w') : Byt w' A n c := fun hn => by
  obtain ⟨bk, off, rfl, hlt, hc⟩ := h hn
  exact ⟨bk, off, rfl, Nat.lt_of_lt_of_le hlt hb.size, fun j hj => (hb.cell (p := ⟨bk, off + j, none⟩) hlt).trans (hc j hj)⟩
def Off (A : Option Addr) (S : List Nat) : Prop := ∀ a, A = some a → a.block ∉ S
theorem Byt.chg {S : List Nat} {w w' : World} {A : Option Addr} {n : Nat} {c : Nat → Nat} (h : Byt w A n c) (hb : Chg S w w') (ho : 0 < n → Off A S) : Byt w' A n c := fun hn => by
  obtain ⟨bk, off, rfl, hlt, hc⟩ := h hn
  refine ⟨bk, off, rfl, Nat.lt_of_lt_of_le hlt hb.size, fun j hj => ?_⟩
  have h1 := hc j hj
  have h2 := hb.block bk hlt (ho hn _ rfl)
  simp only [World.cell?] at h1 ⊢
  rw [h2]
  exact h1
def cellsB (o : List Nat) : List Value := o.map fun k => .int .u8 ((k : Nat) : Int)
theorem cellsB_len (o : List Nat) : (cellsB o).length = o.length := by simp [cellsB]
def Near (g : Nat) (ob : Option Nat) : List Nat := g :: ob.toList
def Next (ob ob' : Option Nat) (w : World) : Prop := ob' = ob ∨ ∃ k, ob' = some k ∧ w.heap.size ≤ k
theorem near_grown {g : Nat} {ob : Option Nat} {w w' : World} (h : w.grownBy w' ob) : Chg (Near g ob) w w' := Chg.grown h (fun r e => by subst e; simp [Near])
theorem near_set {g : Nat} {ob : Option Nat} (w : World) (i : Nat) (v : Value) : Chg (Near g ob) w (w.setCell ⟨g, i, none⟩ v) := (Chg.refl _ w).set (.inl (by simp [Near])) i v
theorem cellsB_snoc (o : List Nat) (x : Nat) : cellsB (o ++ [x]) = cellsB o ++ [.int .u8 ((x : Nat) : Int)] := by simp [cellsB]
theorem own_apart' {w : World} {base : Nat} {e : TypeId} {size k : Nat} {x : Value} {xs : List Value} (h : w.ownsRow base e size x k xs) {r : Nat} (hr : r < base) : x.ownBlock = none ∨ x.ownBlock ≠ some r := by
  cases hx : x.ownBlock with
  | none => exact .inl rfl
  | some g =>
    refine .inr fun e => ?_
    injection e with e
    have := (h.lt g hx).1
    omega
theorem Chg.trans2 {S T : List Nat} {w w' w'' : World} (h : Chg S w w') (k : Chg T w' w'') (hT : ∀ x ∈ T, x ∈ S ∨ w.heap.size ≤ x) : Chg S w w'' :=
  ⟨k.os.trans h.os, k.tape.trans h.tape, k.output.trans h.output, Nat.le_trans h.size k.size, fun i hi hs => (k.block i (Nat.lt_of_lt_of_le hi h.size) (fun hm => by rcases hT i hm with h1 | h1; exact hs h1; omega)).trans (h.block i hi hs)⟩
theorem Next.near {g : Nat} {ob ob' : Option Nat} {w : World} (h : Next ob ob' w) : ∀ x ∈ Near g ob', x ∈ Near g ob ∨ w.heap.size ≤ x := fun x hx => by
  rcases h with rfl | ⟨k, rfl, hk⟩
  · exact .inl hx
  · simp [Near] at hx ⊢
    rcases hx with rfl | rfl
    · exact .inl (.inl rfl)
    · exact .inr hk
theorem Next.trans {ob ob' ob'' : Option Nat} {w w' : World} (h : Next ob ob' w) (k : Next ob' ob'' w') (hs : w.heap.size ≤ w'.heap.size) : Next ob ob'' w := by
  rcases k with rfl | ⟨q, rfl, hq⟩
  · exact h
  · exact .inr ⟨q, rfl, by omega⟩
theorem own_chg {w w' : World} {S : List Nat} {base size n : Nat} {e : TypeId} {v : Value} {xs : List Value} (h : w.ownsRow base e size v n xs) (hc : Chg S w w') (hS : ∀ k, v.ownBlock = some k → k ∉ S) : w'.ownsRow base e size v n xs := by
  obtain ⟨hl, hf⟩ := h
  refine ⟨hl, ?_⟩
  rcases hf with h0 | ⟨g, cap, cur, rfl, hB, hg, hnc, hcm, hcs, ht⟩
  · exact .inl h0
  · exact .inr ⟨g, cap, cur, rfl, hB, hp_chg hg hc (hS g rfl), hnc, hcm, hcs, ht⟩
theorem info_parts {P : Program} {t : TypeId} {z : Option Value} {s b : Nat} (h : (P.info? t).map (fun i => (i.zero, i.size, i.bytes)) = some (z, s, b)) : ∃ i, P.info? t = some i ∧ i.zero = z ∧ i.size = s ∧ i.bytes = b := by
  obtain ⟨i, hi, he⟩ := Option.map_eq_some_iff.1 h
  cases he
  exact ⟨i, hi, rfl, rfl, rfl⟩
theorem info8 : (Tryd.prog.info? 5).map (fun i => (i.zero, i.size, i.bytes)) = some (some (.int .u8 0), 1, 1) := by kernel_rfl
theorem near_mem {g k : Nat} {ob : Option Nat} : k ∈ Near g ob ↔ k = g ∨ ob = some k := by
  cases ob <;> simp [Near, eq_comm]
end Go.Proofs.YtdooefnckdklmaaDoor
