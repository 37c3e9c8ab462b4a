/- The reference's reader of bits. -/
import Derived.Test.YtioghgnngdcicaaTake
namespace Go.Proofs.Ytioghgnngdcicaa
set_option linter.unusedVariables false
open Go.ChangeShapes Go.WideShapes Go.ChangeAt Go.RowKit

/-- The reference's reader. -/
structure Rf (g : Nat) (A : Option Addr) (n cap : Nat) (b : Nat → Nat) (p : Nat) (hi sh : Bool) (w : World) : Prop where
  box : w.heap[g]? = some (.cells #[.slice A n cap, .int .i64 (p : Nat), .bool hi, .bool sh] 61 (0, 0))
  byt : Byt w A n b
  off : 0 < n → Off A [g]
section
variable {g : Nat} {A : Option Addr} {n cap : Nat} {b : Nat → Nat} {p : Nat} {hi sh : Bool} {w w' : World}
theorem Rf.chg {S : List Nat} (h : Rf g A n cap b p hi sh w) (hc : Chg S w w') (hg : g ∉ S) (hA : 0 < n → Off A S) : Rf g A n cap b p hi sh w' :=
  ⟨hp_chg h.box hc hg, h.byt.chg hc hA, h.off⟩
theorem Rf.move (h : Rf g A n cap b p hi sh w) {q : Nat} {sh' : Bool} (hc : Chg [g] w w') (hb : w'.heap[g]? = some (.cells #[.slice A n cap, .int .i64 (q : Nat), .bool hi, .bool sh'] 61 (0, 0))) : Rf g A n cap b q hi sh' w' :=
  ⟨hb, h.byt.chg hc h.off, h.off⟩
end
theorem orL_eq' (b : Nat → Nat) (p k : Nat) (hk : k < 24) : bits BinOp.or IntKind.i64 ((takeL b p k : Nat) : Int) (wrap64 (((bitL b (p + k) : Nat) : Int) * 2 ^ k)) = ((takeL b p (k + 1) : Nat) : Int) := orL_eq b p k hk
theorem orH_eq' (b : Nat → Nat) (p k : Nat) (hk : k < 24) : bits BinOp.or IntKind.i64 (wrap64 (((takeH b p k : Nat) : Int) * 2)) ((bitH b (p + k) : Nat) : Int) = ((takeH b p (k + 1) : Nat) : Int) := by
  have h1 := takeH_lt b p k
  have h3 := pow24 (k := k) (by omega)
  rw [IntWalk.wrap64_in _ (by omega)]
  exact orH_eq b p k hk
def bitB (hi : Bool) (b : Nat → Nat) (k : Nat) : Nat := if hi = true then bitH b k else bitL b k
def takeB (hi : Bool) (b : Nat → Nat) (p k : Nat) : Nat := if hi = true then takeH b p k else takeL b p k
theorem and1_i64 (x p : Nat) (hx : x / 2 ^ p < 256) : bits .and .i64 (wrap64 ((x : Int) / 2 ^ p)) 1 = ((x / 2 ^ p % 2 : Nat) : Int) := by
  rw [show (x : Int) / 2 ^ p = ((x / 2 ^ p : Nat) : Int) by simp]
  generalize x / 2 ^ p = y at *
  rw [IntWalk.wrap64_in _ (by omega), i64_and1]
  omega
theorem bitB_lt (hi : Bool) (b : Nat → Nat) (k : Nat) : bitB hi b k < 2 := by unfold bitB; split; exact bitH_lt b k; exact bitL_lt b k
section
variable (g : Nat) (A : Option Addr) (n cap : Nat) (b : Nat → Nat) (p : Nat) (hi sh : Bool) (hn : n ≤ 1000000)
include hn
set_option maxRecDepth 100000 in
set_option maxHeartbeats 1000000 in
theorem left_ref (hp : p ≤ 8 * n) (w : World) (h : Rf g A n cap b p hi sh w) :
    Calls Try.prog 42 #[.pointer (some ⟨g, 0, none⟩)] w fun e w' => e = .returned (.int .i64 ((8 * n - p : Nat) : Int)) ∧ ∃ m, w' = w.drewN m := by
  have c0 := hp_cell (j := 0) h.box rfl
  have c1 := hp_cell (j := 1) h.box rfl
  have e1 : (8 : Int) * n - p = ((8 * n - p : Nat) : Int) := by omega
  go_enter Try.func42, Try.ntmps42
  go_wp2_with fail
  go_quiet (fail)
  go_wp2
  go_ret
  exact ⟨rfl, _, rfl⟩
set_option maxRecDepth 100000 in
set_option maxHeartbeats 1000000 in
theorem one_ref (hp : p < 8 * n) (hb : ∀ i, b i < 256) (w : World) (h : Rf g A n cap b p hi sh w) :
    Calls Try.prog 43 #[.pointer (some ⟨g, 0, none⟩)] w fun e w' => e = .returned (.int .i64 (bitB hi b p : Nat)) ∧ Chg [g] w w' ∧ Rf g A n cap b (p + 1) hi sh w' := by
  have c0 := hp_cell (j := 0) h.box rfl
  have c1 := hp_cell (j := 1) h.box rfl
  have c2 := hp_cell (j := 2) h.box rfl
  obtain ⟨bk, off, rfl, hlt, hc⟩ := h.byt (by omega)
  have hq := run_quo8 p (by omega)
  have hr := run_rem8 p (by omega)
  have cb := hc (p / 8) (by omega)
  have hlq : p / 8 < n := by omega
  have hof := h.off (by omega) _ rfl
  simp at hof
  have ff := fun j => hp_froz h.box j
  have HR := Lib.hid h
  clear h hc
  have tm : ((p : Nat) : Int).tmod 8 = ((p % 8 : Nat) : Int) := (Int.tmod_eq_emod_of_nonneg (by omega)).trans (by omega)
  cases hi with
  | true =>
    have hbl : b (p / 8) / 2 ^ (7 - p % 8) < 256 := Nat.lt_of_le_of_lt (Nat.div_le_self _ _) (hb _)
    go_enter Try.func43, Try.ntmps43
    go_wp2_with fail
    go_quiet (fail)
    go_wp2
    go_ret
    have hc2 : Chg [g] w ((w.drewN nq).setCell ⟨g, 1, none⟩ (.int .i64 ((p : Int) + 1))) := ((Chg.refl _ w).drewN nq).set (.inl (by simp)) _ _
    exact ⟨ret_i (and1_i64 _ _ hbl), hc2, HR.out.move hc2 (heap_set (W := w.drewN nq) (i := 1) (x := .int .i64 ((p : Int) + 1)) HR.out.box)⟩
  | false =>
    have hbl : b (p / 8) / 2 ^ (p % 8) < 256 := Nat.lt_of_le_of_lt (Nat.div_le_self _ _) (hb _)
    go_enter Try.func43, Try.ntmps43
    go_wp2_with fail
    go_quiet (fail)
    go_wp2
    go_ret
    have hc2 : Chg [g] w ((w.drewN nq).setCell ⟨g, 1, none⟩ (.int .i64 ((p : Int) + 1))) := ((Chg.refl _ w).drewN nq).set (.inl (by simp)) _ _
    exact ⟨ret_i (and1_i64 _ _ hbl), hc2, HR.out.move hc2 (heap_set (W := w.drewN nq) (i := 1) (x := .int .i64 ((p : Int) + 1)) HR.out.box)⟩
set_option maxRecDepth 100000 in
set_option maxHeartbeats 1000000 in
theorem take_refH (hp : p ≤ 8 * n) (hb : ∀ i, b i < 256) (k : Nat) (hk : askB k (8 * n - p) = true) (w : World) (h : Rf g A n cap b p true sh w) :
    Calls Try.prog 28 #[.pointer (some ⟨g, 0, none⟩), .int .i64 (k : Nat)] w fun e w' => e = .returned (.tuple #[.int .i64 (takeB true b p k : Nat), .bool true]) ∧ Chg [g] w w' ∧ Rf g A n cap b (p + k) true sh w' := by
  simp only [askB, decide_eq_true_eq] at hk
  obtain ⟨_, k2, k3⟩ := hk
  have c2 := hp_cell (j := 2) h.box rfl
  have d1 : decide ((k : Int) < 0) = false := decide_eq_false (by omega)
  have d2 : decide (24 < (k : Int)) = false := by simp; omega
  have d3 : decide (8 * n - p < k) = false := by simp; omega
  have hx24 : ∀ j, j < k → -9223372036854775808 ≤ ((takeH b p j : Nat) : Int) * 2 ∧ ((takeH b p j : Nat) : Int) * 2 ≤ 9223372036854775807 := fun j hj => by have := takeH_lt b p j; have := pow24 (k := j) (by omega); omega
  have HX := Lib.hid hx24
  clear hx24
  go_enter Try.func28, Try.ntmps28
  go_wp2_with fail
  refine (left_ref g A n cap b p true sh hn hp _ h).mono ?_
  rintro e w1 ⟨rfl, m, rfl⟩
  have h1 := h.chg ((Chg.refl [] w).drewN m) (by simp) (fun _ _ _ => by simp)
  have HC := Lib.hid ((Chg.refl [g] w).drewN m)
  clear h c2
  go_wp2_with fail
  go_loopw [6, 7] (fun x i wr => ∃ j : Nat, j ≤ k ∧ i = .int .i64 j ∧ x = .int .i64 (takeH b p j : Nat) ∧ Chg [g] w wr ∧ Rf g A n cap b (p + j) true sh wr) (fun _ i _ => k - (intOf i).toNat)
  case atStart => exact ⟨0, by omega, rfl, rfl, HC.out, h1⟩
  case round =>
    obtain ⟨j, hj, rfl, rfl, hC, hR⟩ := hrel
    have b2 := hp_cell (j := 2) hR.box rfl
    by_cases hlt : j < k
    · go_wp2_with fail
      have hxj := HX.out j hlt
      refine (one_ref g A n cap b (p + j) true sh hn (by omega) hb _ hR).mono ?_
      rintro e w2 ⟨rfl, hC2, hR2⟩
      have hbb : bitB true b (p + j) = bitH b (p + j) := rfl
      rw [hbb]
      have HC2 := Lib.hid (hC.trans hC2)
      have HR2 := Lib.hid hR2
      clear hC hC2 hR hR2 b2
      go_wp2_with fail
      go_roundw
      case rel => exact ⟨j + 1, by omega, by go_num, val_i (orH_eq' b p j (by omega)), HC2.out, HR2.out⟩
      case measure => simp [intOf]; omega
    · obtain rfl : j = k := by omega
      go_wp2_with fail
      go_ret2
      exact ⟨rfl, hC, hR⟩
set_option maxRecDepth 100000 in
set_option maxHeartbeats 1000000 in
theorem take_refL (hp : p ≤ 8 * n) (hb : ∀ i, b i < 256) (k : Nat) (hk : askB k (8 * n - p) = true) (w : World) (h : Rf g A n cap b p false sh w) :
    Calls Try.prog 28 #[.pointer (some ⟨g, 0, none⟩), .int .i64 (k : Nat)] w fun e w' => e = .returned (.tuple #[.int .i64 (takeB false b p k : Nat), .bool true]) ∧ Chg [g] w w' ∧ Rf g A n cap b (p + k) false sh w' := by
  simp only [askB, decide_eq_true_eq] at hk
  obtain ⟨_, k2, k3⟩ := hk
  have c2 := hp_cell (j := 2) h.box rfl
  have d1 : decide ((k : Int) < 0) = false := decide_eq_false (by omega)
  have d2 : decide (24 < (k : Int)) = false := by simp; omega
  have d3 : decide (8 * n - p < k) = false := by simp; omega
  go_enter Try.func28, Try.ntmps28
  go_wp2_with fail
  refine (left_ref g A n cap b p false sh hn hp _ h).mono ?_
  rintro e w1 ⟨rfl, m, rfl⟩
  have h1 := h.chg ((Chg.refl [] w).drewN m) (by simp) (fun _ _ _ => by simp)
  have HC := Lib.hid ((Chg.refl [g] w).drewN m)
  clear h c2
  go_wp2_with fail
  go_loopw [6, 7] (fun x i wr => ∃ j : Nat, j ≤ k ∧ i = .int .i64 j ∧ x = .int .i64 (takeL b p j : Nat) ∧ Chg [g] w wr ∧ Rf g A n cap b (p + j) false sh wr) (fun _ i _ => k - (intOf i).toNat)
  case atStart => exact ⟨0, by omega, rfl, rfl, HC.out, h1⟩
  case round =>
    obtain ⟨j, hj, rfl, rfl, hC, hR⟩ := hrel
    have b2 := hp_cell (j := 2) hR.box rfl
    by_cases hlt : j < k
    · go_wp2_with fail
      refine (one_ref g A n cap b (p + j) false sh hn (by omega) hb _ hR).mono ?_
      rintro e w2 ⟨rfl, hC2, hR2⟩
      have hbb : bitB false b (p + j) = bitL b (p + j) := rfl
      rw [hbb]
      have HC2 := Lib.hid (hC.trans hC2)
      have HR2 := Lib.hid hR2
      clear hC hC2 hR hR2 b2
      go_wp2_with fail
      go_roundw
      case rel => exact ⟨j + 1, by omega, by go_num, val_i (orL_eq b p j (by omega)), HC2.out, HR2.out⟩
      case measure => simp [intOf]; omega
    · obtain rfl : j = k := by omega
      go_wp2_with fail
      go_ret2
      exact ⟨rfl, hC, hR⟩
set_option maxRecDepth 100000 in
set_option maxHeartbeats 1000000 in
theorem take_ref_no (hp : p ≤ 8 * n) (k : Int) (hk : askB k (8 * n - p) = false) (w : World) (h : Rf g A n cap b p hi sh w) :
    Calls Try.prog 28 #[.pointer (some ⟨g, 0, none⟩), .int .i64 k] w fun e w' => e = .returned (.tuple #[.int .i64 0, .bool false]) ∧ Chg [g] w w' ∧ Rf g A n cap b p hi true w' := by
  simp only [askB, decide_eq_false_iff_not] at hk
  have c3 := hp_cell (j := 3) h.box rfl
  have ff := fun j => hp_froz h.box j
  have fin : ∀ m, Chg [g] w ((w.drewN m).setCell ⟨g, 3, none⟩ (.bool true)) ∧ Rf g A n cap b p hi true ((w.drewN m).setCell ⟨g, 3, none⟩ (.bool true)) := fun m => by
    have hc2 : Chg [g] w ((w.drewN m).setCell ⟨g, 3, none⟩ (.bool true)) := ((Chg.refl _ w).drewN m).set (.inl (by simp)) _ _
    exact ⟨hc2, h.move hc2 (heap_set (W := w.drewN m) (i := 3) (x := .bool true) h.box)⟩
  have HF := Lib.hid fin
  clear fin
  go_enter Try.func28, Try.ntmps28
  by_cases d1 : k < 0
  · go_wp2
    go_ret2
    exact ⟨rfl, HF.out 0⟩
  by_cases d2 : 24 < k
  · go_wp2
    go_ret2
    exact ⟨rfl, HF.out 0⟩
  have d1 : decide (k < 0) = false := by simp; omega
  have d2 : decide (24 < k) = false := by simp; omega
  go_wp2_with fail
  refine (left_ref g A n cap b p hi sh hn hp _ h).mono ?_
  rintro e w1 ⟨rfl, m, rfl⟩
  have d3 : decide (((8 * n - p : Nat) : Int) < k) = true := by simp; omega
  go_wp2
  go_ret2
  exact ⟨rfl, HF.out m⟩
end
end Go.Proofs.Ytioghgnngdcicaa
