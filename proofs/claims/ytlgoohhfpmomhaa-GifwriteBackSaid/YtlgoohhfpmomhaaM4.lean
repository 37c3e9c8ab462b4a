/- Two pictures compared: slices.Equal, raster.Same, engraverref8.Same. palette: Bits of both; words for what Draw and Make leave. palette.Draw and engraverref8.Draw. -/
import Derived.Test.YtlgoohhfpmomhaaM3

namespace Go.Proofs.Ytlgoohhfpmomhaa
set_option maxRecDepth 100000
set_option linter.unusedVariables false
open Go.ChangeShapes Go.WideShapes Go.ChangeAt Go.RowKit

def allEq (n : Nat) (c d : Nat → Nat) : Bool := (List.range n).all fun j => c j == d j
theorem allEq_t {n : Nat} {c d : Nat → Nat} (h : ∀ j, j < n → c j = d j) : allEq n c d = true := by simp [allEq]; exact h
theorem allEq_iff {n : Nat} {c d : Nat → Nat} : allEq n c d = true ↔ ∀ j, j < n → c j = d j := by simp [allEq]
theorem allEq_f {n k : Nat} {c d : Nat → Nat} (hk : k < n) (h : c k ≠ d k) : allEq n c d = false := by
  rw [← Bool.not_eq_true, allEq_iff]
  intro h2
  exact h (h2 k hk)
theorem agree_snoc {k : Nat} {c d : Nat → Nat} (h : ∀ j, j < k → c j = d j) (hk : c k = d k) : ∀ j, j < k + 1 → c j = d j := by
  intro j hj
  by_cases e : j = k
  · subst e; exact hk
  · exact h j (by omega)

def sameB (a b : Int) (n : Nat) (c : Nat → Nat) (a2 b2 : Int) (n2 : Nat) (d : Nat → Nat) : Bool := mayB a b n && (mayB a2 b2 n2 && (decide (a = a2) && (decide (b = b2) && allEq n c d)))
theorem same_cases (a b : Int) (n : Nat) (a2 b2 : Int) (n2 : Nat) : (mayB a b n = false) ∨ (mayB a b n = true ∧ mayB a2 b2 n2 = false) ∨ (mayB a b n = true ∧ mayB a2 b2 n2 = true ∧ ¬a = a2) ∨ (mayB a b n = true ∧ mayB a2 b2 n2 = true ∧ a = a2 ∧ ¬b = b2) ∨ (mayB a b n = true ∧ mayB a2 b2 n2 = true ∧ a = a2 ∧ b = b2 ∧ n = n2) := by
  cases h : mayB a b n
  · exact .inl rfl
  · cases h2 : mayB a2 b2 n2
    · exact .inr (.inl ⟨rfl, rfl⟩)
    · by_cases e : a = a2
      · by_cases e2 : b = b2
        · have h3 := (may_ok h).2
          have h4 := (may_ok h2).2
          subst e e2
          exact .inr (.inr (.inr (.inr ⟨rfl, rfl, rfl, rfl, by omega⟩)))
        · exact .inr (.inr (.inr (.inl ⟨rfl, rfl, e, e2⟩)))
      · exact .inr (.inr (.inl ⟨rfl, rfl, e⟩))

set_option maxRecDepth 100000 in
set_option maxHeartbeats 2000000 in
theorem same_ref (a b : Int) (A : Option Addr) (n cap : Nat) (c : Nat → Nat) (a2 b2 : Int) (A2 : Option Addr) (n2 cap2 : Nat) (d : Nat → Nat) (ha : In64 a) (hb : In64 b) (ha2 : In64 a2) (hb2 : In64 b2) (hn : n ≤ cap) (hmax : cap ≤ maxLen) (hn2 : n2 ≤ cap2) (hmax2 : cap2 ≤ maxLen)
    (w : World) (hP : Pix w A n c) (hP2 : Pix w A2 n2 d) :
    Calls Try.prog 14 #[.agg #[.int .i64 a, .int .i64 b, .slice A n cap], .agg #[.int .i64 a2, .int .i64 b2, .slice A2 n2 cap2]] w fun e w' => e = .returned (.bool (sameB a b n c a2 b2 n2 d)) ∧ Below w.heap.size w w' := by
  obtain ⟨q0, q1, q2, q3⟩ := two_boxes w #[.int .i64 a, .int .i64 b, .slice A n cap] #[.int .i64 a2, .int .i64 b2, .slice A2 n2 cap2] 27 27
  have hPa := hP.below q3
  have hPb := hP2.below q3
  clear hP hP2
  rcases same_cases a b n a2 b2 n2 with m1 | ⟨m1, m2⟩ | ⟨m1, m2, e1⟩ | ⟨m1, m2, e1, e2⟩ | ⟨m1, m2, e1, e2, e3⟩
  · have HG := Lib.hid (show sameB a b n c a2 b2 n2 d = false by simp [sameB, m1])
    have M1 := Lib.hid m1
    clear m1
    go_enter Try.func14, Try.ntmps14
    go_wp2_with fail
    refine (may_ref a b A n cap ha hb hn hmax _).mono ?_
    rintro e w2 ⟨rfl, hB⟩
    rw [M1.out]
    rw [q0] at hB
    have HB := Lib.hid (q3.trans (hB.mono (by omega)))
    clear hB q3
    go_wp2_with fail
    go_ret
    exact ⟨ret_b HG.out.symm, HB.out⟩
  all_goals
    have M1 := Lib.hid m1
    have M2 := Lib.hid m2
    clear m1 m2
  · have HG := Lib.hid (show sameB a b n c a2 b2 n2 d = false by simp [sameB, M2.out])
    go_enter Try.func14, Try.ntmps14
    go_wp2_with fail
    refine (may_ref a b A n cap ha hb hn hmax _).mono ?_
    rintro e w2 ⟨rfl, hB⟩
    rw [M1.out]
    rw [q0] at hB
    have p0 := hp_below q1 hB (by omega)
    have p1 := hp_below q2 hB (by omega)
    have k0 := hp_cell (j := 0) p0 rfl
    have k1 := hp_cell (j := 1) p0 rfl
    have k2 := hp_cell (j := 2) p0 rfl
    have l0 := hp_cell (j := 0) p1 rfl
    have l1 := hp_cell (j := 1) p1 rfl
    have l2 := hp_cell (j := 2) p1 rfl
    have hs2 := hB.size
    have HB := Lib.hid (q3.trans (hB.mono (by omega)))
    have HPa := Lib.hid (hPa.below (by rw [q0]; exact hB))
    have HPb := Lib.hid (hPb.below (by rw [q0]; exact hB))
    clear hB q1 q2 q3 hPa hPb
    go_wp2_with fail
    refine (may_ref a2 b2 A2 n2 cap2 ha2 hb2 hn2 hmax2 _).mono ?_
    rintro e w3 ⟨rfl, hB⟩
    rw [M2.out]
    have p0 := hp_below p0 hB (by omega)
    have p1 := hp_below p1 hB (by omega)
    have k0 := hp_cell (j := 0) p0 rfl
    have k1 := hp_cell (j := 1) p0 rfl
    have k2 := hp_cell (j := 2) p0 rfl
    have l0 := hp_cell (j := 0) p1 rfl
    have l1 := hp_cell (j := 1) p1 rfl
    have l2 := hp_cell (j := 2) p1 rfl
    have HPa := Lib.hid (HPa.out.below hB)
    have HPb := Lib.hid (HPb.out.below hB)
    have HB := Lib.hid (HB.out.trans (hB.mono HB.out.size))
    clear hB
    go_wp2_with fail
    go_ret
    exact ⟨ret_b HG.out.symm, HB.out⟩
  · have HG := Lib.hid (show sameB a b n c a2 b2 n2 d = false by simp [sameB, e1])
    have t1 : (a == a2) = false := by rw [beq_eq_false_iff_ne]; exact e1
    have t2 : (a != a2) = true := by rw [bne_iff_ne]; exact e1
    clear e1
    go_enter Try.func14, Try.ntmps14
    go_wp2_with fail
    refine (may_ref a b A n cap ha hb hn hmax _).mono ?_
    rintro e w2 ⟨rfl, hB⟩
    rw [M1.out]
    rw [q0] at hB
    have p0 := hp_below q1 hB (by omega)
    have p1 := hp_below q2 hB (by omega)
    have k0 := hp_cell (j := 0) p0 rfl
    have k1 := hp_cell (j := 1) p0 rfl
    have k2 := hp_cell (j := 2) p0 rfl
    have l0 := hp_cell (j := 0) p1 rfl
    have l1 := hp_cell (j := 1) p1 rfl
    have l2 := hp_cell (j := 2) p1 rfl
    have hs2 := hB.size
    have HB := Lib.hid (q3.trans (hB.mono (by omega)))
    have HPa := Lib.hid (hPa.below (by rw [q0]; exact hB))
    have HPb := Lib.hid (hPb.below (by rw [q0]; exact hB))
    clear hB q1 q2 q3 hPa hPb
    go_wp2_with fail
    refine (may_ref a2 b2 A2 n2 cap2 ha2 hb2 hn2 hmax2 _).mono ?_
    rintro e w3 ⟨rfl, hB⟩
    rw [M2.out]
    have p0 := hp_below p0 hB (by omega)
    have p1 := hp_below p1 hB (by omega)
    have k0 := hp_cell (j := 0) p0 rfl
    have k1 := hp_cell (j := 1) p0 rfl
    have k2 := hp_cell (j := 2) p0 rfl
    have l0 := hp_cell (j := 0) p1 rfl
    have l1 := hp_cell (j := 1) p1 rfl
    have l2 := hp_cell (j := 2) p1 rfl
    have HPa := Lib.hid (HPa.out.below hB)
    have HPb := Lib.hid (HPb.out.below hB)
    have HB := Lib.hid (HB.out.trans (hB.mono HB.out.size))
    clear hB
    go_wp2_with fail
    go_ret
    exact ⟨ret_b HG.out.symm, HB.out⟩
  · have HG := Lib.hid (show sameB a b n c a2 b2 n2 d = false by simp [sameB, e2])
    subst e1
    have t1 : (b == b2) = false := by rw [beq_eq_false_iff_ne]; exact e2
    have t2 : (b != b2) = true := by rw [bne_iff_ne]; exact e2
    clear e2
    go_enter Try.func14, Try.ntmps14
    go_wp2_with fail
    refine (may_ref a b A n cap ha hb hn hmax _).mono ?_
    rintro e w2 ⟨rfl, hB⟩
    rw [M1.out]
    rw [q0] at hB
    have p0 := hp_below q1 hB (by omega)
    have p1 := hp_below q2 hB (by omega)
    have k0 := hp_cell (j := 0) p0 rfl
    have k1 := hp_cell (j := 1) p0 rfl
    have k2 := hp_cell (j := 2) p0 rfl
    have l0 := hp_cell (j := 0) p1 rfl
    have l1 := hp_cell (j := 1) p1 rfl
    have l2 := hp_cell (j := 2) p1 rfl
    have hs2 := hB.size
    have HB := Lib.hid (q3.trans (hB.mono (by omega)))
    have HPa := Lib.hid (hPa.below (by rw [q0]; exact hB))
    have HPb := Lib.hid (hPb.below (by rw [q0]; exact hB))
    clear hB q1 q2 q3 hPa hPb
    go_wp2_with fail
    refine (may_ref a b2 A2 n2 cap2 ha2 hb2 hn2 hmax2 _).mono ?_
    rintro e w3 ⟨rfl, hB⟩
    rw [M2.out]
    have p0 := hp_below p0 hB (by omega)
    have p1 := hp_below p1 hB (by omega)
    have k0 := hp_cell (j := 0) p0 rfl
    have k1 := hp_cell (j := 1) p0 rfl
    have k2 := hp_cell (j := 2) p0 rfl
    have l0 := hp_cell (j := 0) p1 rfl
    have l1 := hp_cell (j := 1) p1 rfl
    have l2 := hp_cell (j := 2) p1 rfl
    have HPa := Lib.hid (HPa.out.below hB)
    have HPb := Lib.hid (HPb.out.below hB)
    have HB := Lib.hid (HB.out.trans (hB.mono HB.out.size))
    clear hB
    go_wp2_with fail
    go_ret
    exact ⟨ret_b HG.out.symm, HB.out⟩
  · subst e1 e2 e3
    have HG := Lib.hid (show sameB a b n c a b n d = allEq n c d by simp [sameB, M1.out])
    go_enter Try.func14, Try.ntmps14
    go_wp2_with fail
    refine (may_ref a b A n cap ha hb hn hmax _).mono ?_
    rintro e w2 ⟨rfl, hB⟩
    rw [M1.out]
    rw [q0] at hB
    have p0 := hp_below q1 hB (by omega)
    have p1 := hp_below q2 hB (by omega)
    have k0 := hp_cell (j := 0) p0 rfl
    have k1 := hp_cell (j := 1) p0 rfl
    have k2 := hp_cell (j := 2) p0 rfl
    have l0 := hp_cell (j := 0) p1 rfl
    have l1 := hp_cell (j := 1) p1 rfl
    have l2 := hp_cell (j := 2) p1 rfl
    have hs2 := hB.size
    have HB := Lib.hid (q3.trans (hB.mono (by omega)))
    have HPa := Lib.hid (hPa.below (by rw [q0]; exact hB))
    have HPb := Lib.hid (hPb.below (by rw [q0]; exact hB))
    clear hB q1 q2 q3 hPa hPb
    go_wp2_with fail
    refine (may_ref a b A2 n cap2 ha2 hb2 hn2 hmax2 _).mono ?_
    rintro e w3 ⟨rfl, hB⟩
    rw [M2.out]
    have p0 := hp_below p0 hB (by omega)
    have p1 := hp_below p1 hB (by omega)
    have k0 := hp_cell (j := 0) p0 rfl
    have k1 := hp_cell (j := 1) p0 rfl
    have k2 := hp_cell (j := 2) p0 rfl
    have l0 := hp_cell (j := 0) p1 rfl
    have l1 := hp_cell (j := 1) p1 rfl
    have l2 := hp_cell (j := 2) p1 rfl
    have HPa := Lib.hid (HPa.out.below hB)
    have HPb := Lib.hid (HPb.out.below hB)
    have HB := Lib.hid (HB.out.trans (hB.mono HB.out.size))
    clear hB
    go_wp2_with fail
    have hs3 := (Array.getElem?_eq_some_iff.1 p1).1
    unfold maxLen at hmax hmax2
    go_loopw [5] (fun x wr => ∃ k : Nat, k ≤ n ∧ x = .int .i64 k ∧ (∀ j, j < k → c j = d j) ∧ Below w3.heap.size w3 wr) (fun x _ => n - (intOf x).toNat)
    case atStart => exact ⟨0, by omega, rfl, fun j hj => absurd hj (by omega), Below.refl _ _⟩
    case round =>
      clear k0 k1 k2 l0 l1 l2
      obtain ⟨k, hk, rfl, hag, hB⟩ := hrel
      have HAG := Lib.hid hag
      clear hag
      have o0 := hp_below p0 hB (by omega)
      have o1 := hp_below p1 hB (by omega)
      have k2 := hp_cell (j := 2) o0 rfl
      have l2 := hp_cell (j := 2) o1 rfl
      by_cases hlt : k < n
      · obtain ⟨bk, off, rfl, hbl, hcl⟩ := HPa.out (by omega)
        obtain ⟨bk2, off2, rfl, hbl2, hcl2⟩ := HPb.out (by omega)
        have c0 : wr.cell? ⟨bk, off + k, none⟩ = some (.int .u16 (c k : Nat)) := (hB.cell (p := ⟨bk, off + k, none⟩) hbl).trans (hcl k hlt)
        have c1 : wr.cell? ⟨bk2, off2 + k, none⟩ = some (.int .u16 (d k : Nat)) := (hB.cell (p := ⟨bk2, off2 + k, none⟩) hbl2).trans (hcl2 k hlt)
        clear hcl hcl2
        by_cases he : c k = d k
        · have HS := Lib.hid (agree_snoc HAG.out he)
          have hb : ((c k : Int) == (d k : Int)) = true := by rw [he]; simp
          have hb2 : ((c k : Int) != (d k : Int)) = false := by rw [he]; simp
          clear he
          go_wp2_with fail
          go_quiet (fail)
          go_wp2_with fail
          go_roundw
          case rel => exact ⟨k + 1, by omega, by go_num, HS.out, below_drewN hB _⟩
          case measure => simp [intOf]; omega
        · have HF := Lib.hid (allEq_f hlt he)
          have hb : ((c k : Int) == (d k : Int)) = false := by rw [beq_eq_false_iff_ne]; omega
          have hb2 : ((c k : Int) != (d k : Int)) = true := by rw [bne_iff_ne]; omega
          clear he
          go_wp2_with fail
          go_quiet (fail)
          go_wp2_with fail
          go_ret
          exact ⟨ret_b (by rw [HG.out, HF.out]), HB.out.trans ((below_drewN hB _).mono HB.out.size)⟩
      · obtain rfl : k = n := by omega
        have HF := Lib.hid (allEq_t HAG.out)
        go_wp2_with fail
        go_ret
        exact ⟨ret_b (by rw [HG.out, HF.out]), HB.out.trans (hB.mono HB.out.size)⟩
end Go.Proofs.Ytlgoohhfpmomhaa

namespace Go.Proofs.Ytlgoohhfpmomhaa
set_option maxRecDepth 100000
set_option linter.unusedVariables false
open Go.ChangeShapes Go.WideShapes Go.ChangeAt Go.RowKit

def bitsV (n : Int) : Int := if n ≤ 2 then 1 else if n ≤ 4 then 2 else if n ≤ 8 then 3 else if n ≤ 16 then 4 else if n ≤ 32 then 5 else if n ≤ 64 then 6 else if n ≤ 128 then 7 else 8
def pw (k : Nat) : Int := if k = 1 then 2 else if k = 2 then 4 else if k = 3 then 8 else if k = 4 then 16 else if k = 5 then 32 else if k = 6 then 64 else if k = 7 then 128 else 256
theorem bitsV_exit {n : Int} {k : Nat} (h1 : 1 ≤ k) (h8 : k ≤ 8) (hl : k = 1 ∨ pw (k - 1) < n) (he : k = 8 ∨ n ≤ pw k) : bitsV n = k := by
  have hk : k = 1 ∨ k = 2 ∨ k = 3 ∨ k = 4 ∨ k = 5 ∨ k = 6 ∨ k = 7 ∨ k = 8 := by omega
  rcases hk with rfl | rfl | rfl | rfl | rfl | rfl | rfl | rfl <;> simp [pw] at hl he <;> unfold bitsV <;> (repeat' split) <;> omega
set_option maxHeartbeats 1000000 in
theorem bits_prog (n : Int) (hn : In64 n) (w : World) : Calls Try.prog 21 #[.int .i64 n] w fun e w' => e = .returned (.int .i64 (bitsV n)) ∧ w = w' := by
  go_enter Try.func21, Try.ntmps21
  go_wp2_with fail
  go_loop [3] (fun b => ∃ k : Nat, 1 ≤ k ∧ k ≤ 8 ∧ b = .int .i64 k ∧ (k = 1 ∨ pw (k - 1) < n)) (fun b => 9 - (intOf b).toNat)
  case atStart => exact ⟨1, by omega, by omega, rfl, .inl rfl⟩
  case round =>
    obtain ⟨k, h1, h8, rfl, hl⟩ := hrel
    have HL := Lib.hid hl
    clear hl
    have hk : k = 1 ∨ k = 2 ∨ k = 3 ∨ k = 4 ∨ k = 5 ∨ k = 6 ∨ k = 7 ∨ k = 8 := by omega
    by_cases hp : pw k < n
    · rcases hk with rfl | rfl | rfl | rfl | rfl | rfl | rfl | rfl
      case inr.inr.inr.inr.inr.inr.inr =>
        have HE := Lib.hid (bitsV_exit h1 h8 HL.out (.inl rfl))
        go_wp2_with fail
        go_ret
        exact ⟨ret_i HE.out.symm, rfl⟩
      all_goals
        have HP := Lib.hid hp
        simp only [pw] at hp
        simp at hp
        go_wp2_with fail
        go_round
        case rel => first | exact ⟨2, by omega, by omega, rfl, .inr HP.out⟩ | exact ⟨3, by omega, by omega, rfl, .inr HP.out⟩ | exact ⟨4, by omega, by omega, rfl, .inr HP.out⟩ | exact ⟨5, by omega, by omega, rfl, .inr HP.out⟩ | exact ⟨6, by omega, by omega, rfl, .inr HP.out⟩ | exact ⟨7, by omega, by omega, rfl, .inr HP.out⟩ | exact ⟨8, by omega, by omega, rfl, .inr HP.out⟩
        case measure => simp [intOf]
    · have HE := Lib.hid (bitsV_exit h1 h8 HL.out (.inr (by omega)))
      rcases hk with rfl | rfl | rfl | rfl | rfl | rfl | rfl | rfl
      case inr.inr.inr.inr.inr.inr.inr =>
        clear hp
        go_wp2_with fail
        go_ret
        exact ⟨ret_i HE.out.symm, rfl⟩
      all_goals
        simp [pw] at hp
        go_wp2_with fail
        go_ret
        exact ⟨ret_i HE.out.symm, rfl⟩
end Go.Proofs.Ytlgoohhfpmomhaa

namespace Go.Proofs.Ytlgoohhfpmomhaa
set_option maxRecDepth 100000
set_option linter.unusedVariables false
open Go.ChangeShapes Go.WideShapes Go.ChangeAt Go.RowKit

/-- Bytes lie in w: m of them, d j the j-th. -/
def Byt (w : World) (A : Option Addr) (m : Nat) (d : Nat → Nat) : Prop :=
  0 < m → ∃ bk off, A = some ⟨bk, off, none⟩ ∧ bk < w.heap.size ∧ ∀ j, j < m → w.cell? ⟨bk, off + j, none⟩ = some (.int .u8 (d j : Nat))
theorem Byt.below {w w' : World} {A : Option Addr} {n : Nat} {c : Nat → Nat} (h : Byt w A n c) (hb : Below w.heap.size w w') : Byt w' A n c := fun hn => by
  obtain ⟨bk, off, rfl, hlt, hc⟩ := h hn
  exact ⟨bk, off, rfl, Nat.lt_of_lt_of_le hlt hb.size, fun j hj => (hb.cell (p := ⟨bk, off + j, none⟩) hlt).trans (hc j hj)⟩
def colAt (L : List P4) (i : Nat) : P4 := (L[i]?).getD (0, 0, 0, 0)
def part4 (p : P4) (k : Nat) : Nat := if k = 0 then p.1 else if k = 1 then p.2.1 else if k = 2 then p.2.2.1 else p.2.2.2
/-- The picture of places. -/
def drawC (L : List P4) (d : Nat → Nat) (j : Nat) : Nat := part4 (colAt L (d (j / 4))) (j % 4)
theorem drawC_lt {L : List P4} (hL : ∀ p ∈ L, w4 p) (d : Nat → Nat) (j : Nat) : drawC L d j < 65536 := by
  have h : w4 (colAt L (d (j / 4))) := by
    unfold colAt
    cases h : L[d (j / 4)]? with
    | none => unfold w4; simp
    | some p => exact hL p (List.mem_of_getElem? h)
  obtain ⟨h1, h2, h3, h4⟩ := h
  unfold drawC part4
  (repeat' split) <;> omega
def badIx (m : Nat) (L : List P4) (d : Nat → Nat) : Bool := (List.range m).any fun i => decide (L.length ≤ d i)
theorem bad_t {m i : Nat} {L : List P4} {d : Nat → Nat} (hi : i < m) (h : L.length ≤ d i) : badIx m L d = true := by
  simp only [badIx, List.any_eq_true, List.mem_range, decide_eq_true_eq]
  exact ⟨i, hi, h⟩
theorem bad_f {m : Nat} {L : List P4} {d : Nat → Nat} (h : ∀ i, i < m → d i < L.length) : badIx m L d = false := by
  rw [← Bool.not_eq_true]
  simp only [badIx, List.any_eq_true, List.mem_range, decide_eq_true_eq]
  rintro ⟨i, hi, h2⟩
  have := h i hi
  omega
def drawE (a b : Int) (m : Nat) (L : List P4) (d : Nat → Nat) : Int := if sizeE a b ≠ 0 then sizeE a b else if (m : Int) < a * b then 2 else if a * b < (m : Int) then 3 else if badIx m L d = true then 4 else 0
def drawPost (a b : Int) (m : Nat) (L : List P4) (d : Nat → Nat) (w : World) (e : Ending) (w' : World) : Prop :=
  (drawE a b m L d = 0 ∧ (m : Int) = a * b ∧ ∃ A cap, e = .returned (.tuple #[.agg #[.int .i64 a, .int .i64 b, .slice A (4 * m) cap], .int .i64 0]) ∧ NewRow w.heap.size w' (4 * m) A cap (drawC L d)) ∨
  (drawE a b m L d ≠ 0 ∧ e = .returned (.tuple #[.agg #[.int .i64 0, .int .i64 0, .slice none 0 0], .int .i64 (drawE a b m L d)]))
theorem draw_cur {n i : Nat} {cur : Array Value} {L : List P4} {d : Nat → Nat} (h : ∀ j, j < 4 * i → cur[j]? = some (.int .u16 (drawC L d j : Nat))) (hs : n ≤ cur.size) (hi : 4 * i + 4 ≤ n) {p : P4} (hp : colAt L (d i) = p) (j : Nat) (hj : j < 4 * (i + 1)) :
    (setCur cur i (cP p))[j]? = some (.int .u16 (drawC L d j : Nat)) := by
  by_cases h1 : 4 * i ≤ j
  · obtain ⟨k, rfl⟩ := Nat.le.dest h1
    rw [setCur_in _ _ _ (by simp [cP]; omega) _ (by simp [cP]; omega)]
    have e1 : (4 * i + k) / 4 = i := by omega
    have e2 : (4 * i + k) % 4 = k := by omega
    unfold drawC
    rw [e1, e2, hp]
    obtain rfl | rfl | rfl | rfl : k = 0 ∨ k = 1 ∨ k = 2 ∨ k = 3 := by omega
    all_goals rfl
  · rw [setCur_out _ _ _ (by simp [cP]; omega) _ (by omega), h j (by omega)]

/-- The loop's world behind i places. -/
structure DS (T : TypeId) (w : World) (a b : Int) (AL : Option Addr) (nL capL : Nat) (cl : Int) (R g m cap : Nat) (L : List P4) (d : Nat → Nat) (i : Nat) (wr : World) : Prop where
  below : Below w.heap.size w wr
  pal : wr.heap[w.heap.size]? = some (.cells #[.slice AL nL capL, .int .i64 cl] T (0, 0))
  res : wr.heap[w.heap.size + 1]? = some (.cells #[.int .i64 0, .int .i64 0, .slice none 0 0] 27 (0, 0))
  box : wr.heap[R]? = some (.cells #[.int .i64 a, .int .i64 b, .slice (some ⟨g, 0, none⟩) (4 * m) cap] 27 (0, 0))
  row : ∃ cur, wr.heap[g]? = some (.cells cur 31 (0, 0)) ∧ 4 * m ≤ cur.size ∧ ∀ j, j < 4 * i → cur[j]? = some (.int .u16 (drawC L d j : Nat))
theorem DS.drewN {T : TypeId} {w : World} {a b : Int} {AL : Option Addr} {nL capL : Nat} {cl : Int} {R g m cap : Nat} {L : List P4} {d : Nat → Nat} {i : Nat} {wr : World} (h : DS T w a b AL nL capL cl R g m cap L d i wr) (q : Nat) : DS T w a b AL nL capL cl R g m cap L d i (wr.drewN q) :=
  ⟨below_drewN h.below q, h.pal, h.res, h.box, h.row⟩
theorem DS.step {T : TypeId} {w : World} {a b : Int} {AL : Option Addr} {nL capL : Nat} {cl : Int} {R g m cap : Nat} {L : List P4} {d : Nat → Nat} {i : Nat} {wr : World} {cur : Array Value} (h : DS T w a b AL nL capL cl R g m cap L d i wr)
    (hg : wr.heap[g]? = some (.cells cur 31 (0, 0))) (hs : 4 * m ≤ cur.size) (hc : ∀ j, j < 4 * i → cur[j]? = some (.int .u16 (drawC L d j : Nat))) (hi : i < m) {p : P4} (hp : colAt L (d i) = p) (hgB : w.heap.size + 2 ≤ g) (hgR : g ≠ R) :
    DS T w a b AL nL capL cl R g m cap L d (i + 1) (wr.drew.setRow g (setCur cur i (cP p))) := by
  have hgr : wr.grownBy (wr.drew.setRow g (setCur cur i (cP p))) (some g) := (grown_drewS _ _).trans (grown_setRow _ _ _)
  have lt := fun {k : Nat} {o : Obj} (h : wr.heap[k]? = some o) => (Array.getElem?_eq_some_iff.1 h).1
  refine ⟨h.below.grown hgr h.below.size (fun k e => by cases e; omega), (hgr.block _ (lt h.pal) (fun e => by injection e; omega)).trans h.pal, (hgr.block _ (lt h.res) (fun e => by injection e; omega)).trans h.res, (hgr.block _ (lt h.box) (fun e => by injection e with e; exact hgR e.symm)).trans h.box, _, setRow_heap _ _ _ _ _ _ (show wr.drew.heap[g]? = _ from hg), ?_, fun j hj => draw_cur hc hs (by omega) hp j hj⟩
  rw [setCur_size _ _ _ (by simp [cP]; omega)]
  exact hs
theorem below3 {w W : World} (h : Below w.heap.size w W) {g : Nat} (hg : w.heap.size ≤ g) (v0 v1 v2 : Value) : Below w.heap.size w (((W.setCell ⟨g, 0, none⟩ v0).setCell ⟨g, 1, none⟩ v1).setCell ⟨g, 2, none⟩ v2) :=
  ((h.setCell (p := ⟨g, 0, none⟩) hg _).setCell (p := ⟨g, 1, none⟩) hg _).setCell (p := ⟨g, 2, none⟩) hg _
theorem all_snoc' {p : Nat → Prop} {k : Nat} (h : ∀ j, j < k → p j) (hk : p k) : ∀ j, j < k + 1 → p j := by
  intro j hj
  by_cases e : j = k
  · subst e; exact hk
  · exact h j (by omega)

end Go.Proofs.Ytlgoohhfpmomhaa
