/- Bits taken from a reader, from either end. -/
import Derived.Test.YtioghgnngdcicaaAri
namespace Go.Proofs.Ytioghgnngdcicaa
set_option linter.unusedVariables false
open Go.ChangeShapes Go.WideShapes Go.ChangeAt Go.RowKit

/-- May k bits be asked for where l are left? -/
def askB (k : Int) (l : Nat) : Bool := decide (0 ≤ k ∧ k ≤ 24 ∧ k ≤ (l : Int))
def Stop1 (e : Ending) : Prop := ∃ u pv, e = .panicked [{ v := .iface u pv, recovered := false }]
def takeL (b : Nat → Nat) (p : Nat) : Nat → Nat
  | 0 => 0
  | k + 1 => takeL b p k + bitL b (p + k) * 2 ^ k
def takeH (b : Nat → Nat) (p : Nat) : Nat → Nat
  | 0 => 0
  | k + 1 => 2 * takeH b p k + bitH b (p + k)
theorem bitL_lt (b : Nat → Nat) (p : Nat) : bitL b p < 2 := Nat.mod_lt _ (by omega)
theorem bitH_lt (b : Nat → Nat) (p : Nat) : bitH b p < 2 := Nat.mod_lt _ (by omega)
theorem takeL_lt (b : Nat → Nat) (p k : Nat) : takeL b p k < 2 ^ k := by
  induction k with
  | zero => simp [takeL]
  | succ k ih =>
    have h := bitL_lt b (p + k)
    have h2 : bitL b (p + k) * 2 ^ k ≤ 1 * 2 ^ k := Nat.mul_le_mul_right _ (by omega)
    rw [takeL, Nat.pow_succ]
    omega
theorem takeH_lt (b : Nat → Nat) (p k : Nat) : takeH b p k < 2 ^ k := by
  induction k with
  | zero => simp [takeH]
  | succ k ih =>
    have h := bitH_lt b (p + k)
    rw [takeH, Nat.pow_succ]
    omega
theorem pow24 {k : Nat} (h : k ≤ 24) : 2 ^ k ≤ 16777216 := Nat.pow_le_pow_right (n := 2) (by omega) h
theorem orL (b : Nat → Nat) (p k : Nat) : takeL b p k ||| bitL b (p + k) * 2 ^ k = takeL b p (k + 1) := by
  have h := takeL_lt b p k
  rw [Nat.or_comm, nat_join k _ _ (by simp) h, takeL, Nat.add_comm]
theorem orH (b : Nat → Nat) (p k : Nat) : takeH b p k * 2 ||| bitH b (p + k) = takeH b p (k + 1) := by
  have h := bitH_lt b (p + k)
  rw [nat_join 1 _ _ (by omega) (by omega), takeH, Nat.mul_comm]
theorem val_i {k : IntKind} {a b : Int} (h : a = b) : Value.int k a = Value.int k b := by rw [h]
theorem orL_eq (b : Nat → Nat) (p k : Nat) (hk : k < 24) : bits BinOp.or IntKind.i64 ((takeL b p k : Nat) : Int) (wrap64 (((bitL b (p + k) : Nat) : Int) * 2 ^ k)) = ((takeL b p (k + 1) : Nat) : Int) := by
  have h1 := takeL_lt b p k
  have h2 := bitL_lt b (p + k)
  have h3 := pow24 (k := k) (by omega)
  have h4 := pow_bd (x := bitL b (p + k)) (p := k) (by omega) (by omega)
  rw [show ((bitL b (p + k) : Nat) : Int) * 2 ^ k = ((bitL b (p + k) * 2 ^ k : Nat) : Int) by simp, IntWalk.wrap64_in _ (by omega), i64_or_nat _ _ (by omega) (by omega), orL]
theorem orH_eq (b : Nat → Nat) (p k : Nat) (hk : k < 24) : bits BinOp.or IntKind.i64 (((takeH b p k : Nat) : Int) * 2) ((bitH b (p + k) : Nat) : Int) = ((takeH b p (k + 1) : Nat) : Int) := by
  have h1 := takeH_lt b p k
  have h2 := bitH_lt b (p + k)
  have h3 := pow24 (k := k) (by omega)
  rw [show ((takeH b p k : Nat) : Int) * 2 = ((takeH b p k * 2 : Nat) : Int) by simp, i64_or_nat _ _ (by omega) (by omega), orH]
section
variable (T : TypeId) (g : Nat) (A : Option Addr) (n cap : Nat) (b : Nat → Nat) (p : Nat) (vo : Value) (fr : Int) (hn : n ≤ 1000000)
include hn
set_option maxRecDepth 100000 in
set_option maxHeartbeats 1000000 in
theorem ask_yes (hp : p ≤ 8 * n) (k : Int) (hk : askB k (8 * n - p) = true) (w : World) (h : Rd T g A n cap b p vo fr w) :
    Calls Try.prog 50 #[.pointer (some ⟨g, 0, none⟩), .int .i64 k] w fun e w' => e = .returned (.tuple #[]) ∧ ∃ m, w' = w.drewN m := by
  simp only [askB, decide_eq_true_eq] at hk
  obtain ⟨k1, k2, k3⟩ := hk
  go_enter Try.func50, Try.ntmps50
  have d1 : decide (k < 0) = false := by simp; omega
  have d2 : decide (24 < k) = false := by simp; omega
  go_wp2_with fail
  refine (left_row T g A n cap b p vo fr hn hp _ h).mono ?_
  rintro e w1 ⟨rfl, m, rfl⟩
  have d3 : decide (((8 * n - p : Nat) : Int) < k) = false := by simp; omega
  go_wp2
  go_end0
  exact ⟨rfl, _, rfl⟩
set_option maxRecDepth 100000 in
set_option maxHeartbeats 1000000 in
theorem ask_no (hp : p ≤ 8 * n) (k : Int) (hk : askB k (8 * n - p) = false) (w : World) (h : Rd T g A n cap b p vo fr w) :
    Calls Try.prog 50 #[.pointer (some ⟨g, 0, none⟩), .int .i64 k] w fun e w' => Stop1 e ∧ ∃ m, w' = w.drewN m := by
  simp only [askB, decide_eq_false_iff_not] at hk
  go_enter Try.func50, Try.ntmps50
  by_cases d1 : k < 0
  · go_wp2
    exact ⟨rfl, ⟨_, _, rfl⟩, 0, rfl⟩
  by_cases d2 : 24 < k
  · go_wp2
    exact ⟨rfl, ⟨_, _, rfl⟩, 0, rfl⟩
  have d1 : decide (k < 0) = false := by simp; omega
  have d2 : decide (24 < k) = false := by simp; omega
  go_wp2_with fail
  refine (left_row T g A n cap b p vo fr hn hp _ h).mono ?_
  rintro e w1 ⟨rfl, m, rfl⟩
  have d3 : decide (((8 * n - p : Nat) : Int) < k) = true := by simp; omega
  go_wp2
  exact ⟨rfl, ⟨_, _, rfl⟩, _, rfl⟩
set_option maxRecDepth 100000 in
set_option maxHeartbeats 1000000 in
theorem nextL (hp : p < 8 * n) (hb : ∀ i, b i < 256) (w : World) (h : Rd 76 g A n cap b p vo fr w) :
    Calls Try.prog 51 #[.pointer (some ⟨g, 0, none⟩)] w fun e w' => e = .returned (.int .i64 (bitL b p : Nat)) ∧ Chg [g] w w' ∧ Rd 76 g A n cap b (p + 1) vo fr w' := by
  have c0 := hp_cell (j := 0) h.box rfl
  have c2 := hp_cell (j := 2) h.box rfl
  obtain ⟨bk, off, rfl, hlt, hc⟩ := h.byt (by omega)
  have hq := run_quo8 p (by omega)
  have hr := run_rem8 p (by omega)
  have cb := hc (p / 8) (by omega)
  have hlq : p / 8 < n := by omega
  have hs := run_shr8 (b (p / 8)) (p % 8) (hb _) (by omega)
  have e7 : (7 : Int) - ((p % 8 : Nat) : Int) = ((7 - p % 8 : Nat) : Int) := by omega
  have hbl : b (p / 8) / 2 ^ (p % 8) < 256 := Nat.lt_of_le_of_lt (Nat.div_le_self _ _) (hb _)
  have ha := run_and1 _ hbl
  have hof := h.off (by omega) _ rfl
  simp at hof
  have ff := fun j => hp_froz h.box j
  have HR := Lib.hid h
  clear h hc
  go_enter Try.func51, Try.ntmps51
  go_wp2_with fail
  go_quiet (fail)
  go_wp2
  go_ret
  have e1 : wrap64 (bits .and .u8 (((b (p / 8) : Nat) : Int) / 2 ^ (p % 8)) 1) = ((bitL b p : Nat) : Int) := and1_eq _ _ hbl
  have hc2 : Chg [g] w ((w.drewN nq).setCell ⟨g, 2, none⟩ (.int .i64 ((p : Int) + 1))) := ((Chg.refl _ w).drewN nq).set (.inl (by simp)) _ _
  exact ⟨ret_i e1, hc2, HR.out.move hc2 (heap_set (W := w.drewN nq) (i := 2) (x := .int .i64 ((p : Int) + 1)) HR.out.box)⟩
set_option maxRecDepth 100000 in
set_option maxHeartbeats 1000000 in
theorem takeL_yes (hp : p ≤ 8 * n) (hb : ∀ i, b i < 256) (k : Nat) (hk : askB k (8 * n - p) = true) (w : World) (h : Rd 76 g A n cap b p vo fr w) :
    Calls Try.prog 45 #[.pointer (some ⟨g, 0, none⟩), .int .i64 (k : Nat)] w fun e w' => e = .returned (.int .i64 (takeL b p k : Nat)) ∧ Chg [g] w w' ∧ Rd 76 g A n cap b (p + k) vo fr w' := by
  have hk' := hk
  simp only [askB, decide_eq_true_eq] at hk'
  obtain ⟨_, k2, k3⟩ := hk'
  have HK := Lib.hid hk
  clear hk
  have c0 := hp_cell (j := 0) h.box rfl
  go_enter Try.func45, Try.ntmps45
  go_wp2_with fail
  refine (ask_yes _ g A n cap b p vo fr hn hp k HK.out _ h).mono ?_
  rintro e w1 ⟨rfl, m, rfl⟩
  have h1 := h.chg ((Chg.refl [] w).drewN m) (by simp) (fun _ _ _ => by simp)
  have HC := Lib.hid ((Chg.refl [g] w).drewN m)
  clear h c0
  go_wp2_with fail
  go_loopw [5, 13] (fun x i wr => ∃ j : Nat, j ≤ k ∧ i = .int .i64 j ∧ x = .int .i64 (takeL b p j : Nat) ∧ Chg [g] w wr ∧ Rd 76 g A n cap b (p + j) vo fr wr) (fun _ i _ => k - (intOf i).toNat)
  case atStart => exact ⟨0, by omega, rfl, rfl, HC.out, h1⟩
  case round =>
    obtain ⟨j, hj, rfl, rfl, hC, hR⟩ := hrel
    have b0 := hp_cell (j := 0) hR.box rfl
    by_cases hlt : j < k
    · go_wp2_with fail
      refine (nextL g A n cap b (p + j) vo fr hn (by omega) hb _ hR).mono ?_
      rintro e w2 ⟨rfl, hC2, hR2⟩
      have HC2 := Lib.hid (hC.trans hC2)
      have HR2 := Lib.hid hR2
      clear hC hC2 hR hR2 b0
      go_wp2_with fail
      go_roundw
      case rel => exact ⟨j + 1, by omega, by go_num, val_i (orL_eq b p j (by omega)), HC2.out, HR2.out⟩
      case measure => simp [intOf]; omega
    · obtain rfl : j = k := by omega
      go_wp2_with fail
      go_ret
      exact ⟨rfl, hC, hR⟩
set_option maxRecDepth 100000 in
set_option maxHeartbeats 1000000 in
theorem takeL_no (hp : p ≤ 8 * n) (k : Int) (hk : askB k (8 * n - p) = false) (w : World) (h : Rd 76 g A n cap b p vo fr w) :
    Calls Try.prog 45 #[.pointer (some ⟨g, 0, none⟩), .int .i64 k] w fun e w' => Stop1 e ∧ ∃ m, w' = w.drewN m := by
  have HK := Lib.hid hk
  clear hk
  have c0 := hp_cell (j := 0) h.box rfl
  go_enter Try.func45, Try.ntmps45
  go_wp2_with fail
  refine (ask_no _ g A n cap b p vo fr hn hp k HK.out _ h).mono ?_
  rintro e w1 ⟨⟨u, pv, rfl⟩, m, rfl⟩
  go_wp2
  exact ⟨rfl, ⟨_, _, rfl⟩, m, rfl⟩
end
end Go.Proofs.Ytioghgnngdcicaa
