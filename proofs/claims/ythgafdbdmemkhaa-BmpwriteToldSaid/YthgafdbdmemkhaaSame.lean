/- Two pictures compared: slices.Equal, raster.Same, engraverref8.Same. -/
import Derived.Test.YthgafdbdmemkhaaGet
namespace Go.Proofs.Ythgafdbdmemkhaa
set_option linter.unusedVariables false
open Go.ChangeShapes Go.WideShapes Go.ChangeAt Go.RowKit

def allEq (n : Nat) (c d : Nat → Nat) : Bool := (List.range n).all fun j => c j == d j
theorem allEq_t {n : Nat} {c d : Nat → Nat} (h : ∀ j, j < n → c j = d j) : allEq n c d = true := by simp [allEq]; exact h
theorem allEq_iff {n : Nat} {c d : Nat → Nat} : allEq n c d = true ↔ ∀ j, j < n → c j = d j := by simp [allEq]
theorem allEq_f {n k : Nat} {c d : Nat → Nat} (hk : k < n) (h : c k ≠ d k) : allEq n c d = false := by
  rw [← Bool.not_eq_true, allEq_iff]
  intro h2
  exact h (h2 k hk)
theorem agree_snoc {k : Nat} {c d : Nat → Nat} (h : ∀ j, j < k → c j = d j) (hk : c k = d k) : ∀ j, j < k + 1 → c j = d j := by
  intro j hj
  by_cases e : j = k
  · subst e; exact hk
  · exact h j (by omega)

def sameB (a b : Int) (n : Nat) (c : Nat → Nat) (a2 b2 : Int) (n2 : Nat) (d : Nat → Nat) : Bool := mayB a b n && (mayB a2 b2 n2 && (decide (a = a2) && (decide (b = b2) && allEq n c d)))
theorem same_cases (a b : Int) (n : Nat) (a2 b2 : Int) (n2 : Nat) : (mayB a b n = false) ∨ (mayB a b n = true ∧ mayB a2 b2 n2 = false) ∨ (mayB a b n = true ∧ mayB a2 b2 n2 = true ∧ ¬a = a2) ∨ (mayB a b n = true ∧ mayB a2 b2 n2 = true ∧ a = a2 ∧ ¬b = b2) ∨ (mayB a b n = true ∧ mayB a2 b2 n2 = true ∧ a = a2 ∧ b = b2 ∧ n = n2) := by
  cases h : mayB a b n
  · exact .inl rfl
  · cases h2 : mayB a2 b2 n2
    · exact .inr (.inl ⟨rfl, rfl⟩)
    · by_cases e : a = a2
      · by_cases e2 : b = b2
        · have h3 := (may_ok h).2
          have h4 := (may_ok h2).2
          subst e e2
          exact .inr (.inr (.inr (.inr ⟨rfl, rfl, rfl, rfl, by omega⟩)))
        · exact .inr (.inr (.inr (.inl ⟨rfl, rfl, e, e2⟩)))
      · exact .inr (.inr (.inl ⟨rfl, rfl, e⟩))

set_option maxRecDepth 100000 in
set_option maxHeartbeats 2000000 in
theorem same_ref (a b : Int) (A : Option Addr) (n cap : Nat) (c : Nat → Nat) (a2 b2 : Int) (A2 : Option Addr) (n2 cap2 : Nat) (d : Nat → Nat) (ha : In64 a) (hb : In64 b) (ha2 : In64 a2) (hb2 : In64 b2) (hn : n ≤ cap) (hmax : cap ≤ maxLen) (hn2 : n2 ≤ cap2) (hmax2 : cap2 ≤ maxLen)
    (w : World) (hP : Pix w A n c) (hP2 : Pix w A2 n2 d) :
    Calls Try.prog 9 #[.agg #[.int .i64 a, .int .i64 b, .slice A n cap], .agg #[.int .i64 a2, .int .i64 b2, .slice A2 n2 cap2]] w fun e w' => e = .returned (.bool (sameB a b n c a2 b2 n2 d)) ∧ Below w.heap.size w w' := by
  obtain ⟨q0, q1, q2, q3⟩ := two_boxes w #[.int .i64 a, .int .i64 b, .slice A n cap] #[.int .i64 a2, .int .i64 b2, .slice A2 n2 cap2] 26 26
  have hPa := hP.below q3
  have hPb := hP2.below q3
  clear hP hP2
  rcases same_cases a b n a2 b2 n2 with m1 | ⟨m1, m2⟩ | ⟨m1, m2, e1⟩ | ⟨m1, m2, e1, e2⟩ | ⟨m1, m2, e1, e2, e3⟩
  · have HG := Lib.hid (show sameB a b n c a2 b2 n2 d = false by simp [sameB, m1])
    have M1 := Lib.hid m1
    clear m1
    go_enter Try.func9, Try.ntmps9
    go_wp2_with fail
    refine (may_ref a b A n cap ha hb hn hmax _).mono ?_
    rintro e w2 ⟨rfl, hB⟩
    rw [M1.out]
    rw [q0] at hB
    have HB := Lib.hid (q3.trans (hB.mono (by omega)))
    clear hB q3
    go_wp2_with fail
    go_ret
    exact ⟨ret_b HG.out.symm, HB.out⟩
  all_goals
    have M1 := Lib.hid m1
    have M2 := Lib.hid m2
    clear m1 m2
  · have HG := Lib.hid (show sameB a b n c a2 b2 n2 d = false by simp [sameB, M2.out])
    go_enter Try.func9, Try.ntmps9
    go_wp2_with fail
    refine (may_ref a b A n cap ha hb hn hmax _).mono ?_
    rintro e w2 ⟨rfl, hB⟩
    rw [M1.out]
    rw [q0] at hB
    have p0 := hp_below q1 hB (by omega)
    have p1 := hp_below q2 hB (by omega)
    have k0 := hp_cell (j := 0) p0 rfl
    have k1 := hp_cell (j := 1) p0 rfl
    have k2 := hp_cell (j := 2) p0 rfl
    have l0 := hp_cell (j := 0) p1 rfl
    have l1 := hp_cell (j := 1) p1 rfl
    have l2 := hp_cell (j := 2) p1 rfl
    have hs2 := hB.size
    have HB := Lib.hid (q3.trans (hB.mono (by omega)))
    have HPa := Lib.hid (hPa.below (by rw [q0]; exact hB))
    have HPb := Lib.hid (hPb.below (by rw [q0]; exact hB))
    clear hB q1 q2 q3 hPa hPb
    go_wp2_with fail
    refine (may_ref a2 b2 A2 n2 cap2 ha2 hb2 hn2 hmax2 _).mono ?_
    rintro e w3 ⟨rfl, hB⟩
    rw [M2.out]
    have p0 := hp_below p0 hB (by omega)
    have p1 := hp_below p1 hB (by omega)
    have k0 := hp_cell (j := 0) p0 rfl
    have k1 := hp_cell (j := 1) p0 rfl
    have k2 := hp_cell (j := 2) p0 rfl
    have l0 := hp_cell (j := 0) p1 rfl
    have l1 := hp_cell (j := 1) p1 rfl
    have l2 := hp_cell (j := 2) p1 rfl
    have HPa := Lib.hid (HPa.out.below hB)
    have HPb := Lib.hid (HPb.out.below hB)
    have HB := Lib.hid (HB.out.trans (hB.mono HB.out.size))
    clear hB
    go_wp2_with fail
    go_ret
    exact ⟨ret_b HG.out.symm, HB.out⟩
  · have HG := Lib.hid (show sameB a b n c a2 b2 n2 d = false by simp [sameB, e1])
    have t1 : (a == a2) = false := by rw [beq_eq_false_iff_ne]; exact e1
    have t2 : (a != a2) = true := by rw [bne_iff_ne]; exact e1
    clear e1
    go_enter Try.func9, Try.ntmps9
    go_wp2_with fail
    refine (may_ref a b A n cap ha hb hn hmax _).mono ?_
    rintro e w2 ⟨rfl, hB⟩
    rw [M1.out]
    rw [q0] at hB
    have p0 := hp_below q1 hB (by omega)
    have p1 := hp_below q2 hB (by omega)
    have k0 := hp_cell (j := 0) p0 rfl
    have k1 := hp_cell (j := 1) p0 rfl
    have k2 := hp_cell (j := 2) p0 rfl
    have l0 := hp_cell (j := 0) p1 rfl
    have l1 := hp_cell (j := 1) p1 rfl
    have l2 := hp_cell (j := 2) p1 rfl
    have hs2 := hB.size
    have HB := Lib.hid (q3.trans (hB.mono (by omega)))
    have HPa := Lib.hid (hPa.below (by rw [q0]; exact hB))
    have HPb := Lib.hid (hPb.below (by rw [q0]; exact hB))
    clear hB q1 q2 q3 hPa hPb
    go_wp2_with fail
    refine (may_ref a2 b2 A2 n2 cap2 ha2 hb2 hn2 hmax2 _).mono ?_
    rintro e w3 ⟨rfl, hB⟩
    rw [M2.out]
    have p0 := hp_below p0 hB (by omega)
    have p1 := hp_below p1 hB (by omega)
    have k0 := hp_cell (j := 0) p0 rfl
    have k1 := hp_cell (j := 1) p0 rfl
    have k2 := hp_cell (j := 2) p0 rfl
    have l0 := hp_cell (j := 0) p1 rfl
    have l1 := hp_cell (j := 1) p1 rfl
    have l2 := hp_cell (j := 2) p1 rfl
    have HPa := Lib.hid (HPa.out.below hB)
    have HPb := Lib.hid (HPb.out.below hB)
    have HB := Lib.hid (HB.out.trans (hB.mono HB.out.size))
    clear hB
    go_wp2_with fail
    go_ret
    exact ⟨ret_b HG.out.symm, HB.out⟩
  · have HG := Lib.hid (show sameB a b n c a2 b2 n2 d = false by simp [sameB, e2])
    subst e1
    have t1 : (b == b2) = false := by rw [beq_eq_false_iff_ne]; exact e2
    have t2 : (b != b2) = true := by rw [bne_iff_ne]; exact e2
    clear e2
    go_enter Try.func9, Try.ntmps9
    go_wp2_with fail
    refine (may_ref a b A n cap ha hb hn hmax _).mono ?_
    rintro e w2 ⟨rfl, hB⟩
    rw [M1.out]
    rw [q0] at hB
    have p0 := hp_below q1 hB (by omega)
    have p1 := hp_below q2 hB (by omega)
    have k0 := hp_cell (j := 0) p0 rfl
    have k1 := hp_cell (j := 1) p0 rfl
    have k2 := hp_cell (j := 2) p0 rfl
    have l0 := hp_cell (j := 0) p1 rfl
    have l1 := hp_cell (j := 1) p1 rfl
    have l2 := hp_cell (j := 2) p1 rfl
    have hs2 := hB.size
    have HB := Lib.hid (q3.trans (hB.mono (by omega)))
    have HPa := Lib.hid (hPa.below (by rw [q0]; exact hB))
    have HPb := Lib.hid (hPb.below (by rw [q0]; exact hB))
    clear hB q1 q2 q3 hPa hPb
    go_wp2_with fail
    refine (may_ref a b2 A2 n2 cap2 ha2 hb2 hn2 hmax2 _).mono ?_
    rintro e w3 ⟨rfl, hB⟩
    rw [M2.out]
    have p0 := hp_below p0 hB (by omega)
    have p1 := hp_below p1 hB (by omega)
    have k0 := hp_cell (j := 0) p0 rfl
    have k1 := hp_cell (j := 1) p0 rfl
    have k2 := hp_cell (j := 2) p0 rfl
    have l0 := hp_cell (j := 0) p1 rfl
    have l1 := hp_cell (j := 1) p1 rfl
    have l2 := hp_cell (j := 2) p1 rfl
    have HPa := Lib.hid (HPa.out.below hB)
    have HPb := Lib.hid (HPb.out.below hB)
    have HB := Lib.hid (HB.out.trans (hB.mono HB.out.size))
    clear hB
    go_wp2_with fail
    go_ret
    exact ⟨ret_b HG.out.symm, HB.out⟩
  · subst e1 e2 e3
    have HG := Lib.hid (show sameB a b n c a b n d = allEq n c d by simp [sameB, M1.out])
    go_enter Try.func9, Try.ntmps9
    go_wp2_with fail
    refine (may_ref a b A n cap ha hb hn hmax _).mono ?_
    rintro e w2 ⟨rfl, hB⟩
    rw [M1.out]
    rw [q0] at hB
    have p0 := hp_below q1 hB (by omega)
    have p1 := hp_below q2 hB (by omega)
    have k0 := hp_cell (j := 0) p0 rfl
    have k1 := hp_cell (j := 1) p0 rfl
    have k2 := hp_cell (j := 2) p0 rfl
    have l0 := hp_cell (j := 0) p1 rfl
    have l1 := hp_cell (j := 1) p1 rfl
    have l2 := hp_cell (j := 2) p1 rfl
    have hs2 := hB.size
    have HB := Lib.hid (q3.trans (hB.mono (by omega)))
    have HPa := Lib.hid (hPa.below (by rw [q0]; exact hB))
    have HPb := Lib.hid (hPb.below (by rw [q0]; exact hB))
    clear hB q1 q2 q3 hPa hPb
    go_wp2_with fail
    refine (may_ref a b A2 n cap2 ha2 hb2 hn2 hmax2 _).mono ?_
    rintro e w3 ⟨rfl, hB⟩
    rw [M2.out]
    have p0 := hp_below p0 hB (by omega)
    have p1 := hp_below p1 hB (by omega)
    have k0 := hp_cell (j := 0) p0 rfl
    have k1 := hp_cell (j := 1) p0 rfl
    have k2 := hp_cell (j := 2) p0 rfl
    have l0 := hp_cell (j := 0) p1 rfl
    have l1 := hp_cell (j := 1) p1 rfl
    have l2 := hp_cell (j := 2) p1 rfl
    have HPa := Lib.hid (HPa.out.below hB)
    have HPb := Lib.hid (HPb.out.below hB)
    have HB := Lib.hid (HB.out.trans (hB.mono HB.out.size))
    clear hB
    go_wp2_with fail
    have hs3 := (Array.getElem?_eq_some_iff.1 p1).1
    unfold maxLen at hmax hmax2
    go_loopw [5] (fun x wr => ∃ k : Nat, k ≤ n ∧ x = .int .i64 k ∧ (∀ j, j < k → c j = d j) ∧ Below w3.heap.size w3 wr) (fun x _ => n - (intOf x).toNat)
    case atStart => exact ⟨0, by omega, rfl, fun j hj => absurd hj (by omega), Below.refl _ _⟩
    case round =>
      clear k0 k1 k2 l0 l1 l2
      obtain ⟨k, hk, rfl, hag, hB⟩ := hrel
      have HAG := Lib.hid hag
      clear hag
      have o0 := hp_below p0 hB (by omega)
      have o1 := hp_below p1 hB (by omega)
      have k2 := hp_cell (j := 2) o0 rfl
      have l2 := hp_cell (j := 2) o1 rfl
      by_cases hlt : k < n
      · obtain ⟨bk, off, rfl, hbl, hcl⟩ := HPa.out (by omega)
        obtain ⟨bk2, off2, rfl, hbl2, hcl2⟩ := HPb.out (by omega)
        have c0 : wr.cell? ⟨bk, off + k, none⟩ = some (.int .u16 (c k : Nat)) := (hB.cell (p := ⟨bk, off + k, none⟩) hbl).trans (hcl k hlt)
        have c1 : wr.cell? ⟨bk2, off2 + k, none⟩ = some (.int .u16 (d k : Nat)) := (hB.cell (p := ⟨bk2, off2 + k, none⟩) hbl2).trans (hcl2 k hlt)
        clear hcl hcl2
        by_cases he : c k = d k
        · have HS := Lib.hid (agree_snoc HAG.out he)
          have hb : ((c k : Int) == (d k : Int)) = true := by rw [he]; simp
          have hb2 : ((c k : Int) != (d k : Int)) = false := by rw [he]; simp
          clear he
          go_wp2_with fail
          go_quiet (fail)
          go_wp2_with fail
          go_roundw
          case rel => exact ⟨k + 1, by omega, by go_num, HS.out, below_drewN hB _⟩
          case measure => simp [intOf]; omega
        · have HF := Lib.hid (allEq_f hlt he)
          have hb : ((c k : Int) == (d k : Int)) = false := by rw [beq_eq_false_iff_ne]; omega
          have hb2 : ((c k : Int) != (d k : Int)) = true := by rw [bne_iff_ne]; omega
          clear he
          go_wp2_with fail
          go_quiet (fail)
          go_wp2_with fail
          go_ret
          exact ⟨ret_b (by rw [HG.out, HF.out]), HB.out.trans ((below_drewN hB _).mono HB.out.size)⟩
      · obtain rfl : k = n := by omega
        have HF := Lib.hid (allEq_t HAG.out)
        go_wp2_with fail
        go_ret
        exact ⟨ret_b (by rw [HG.out, HF.out]), HB.out.trans (hB.mono HB.out.size)⟩
end Go.Proofs.Ythgafdbdmemkhaa
