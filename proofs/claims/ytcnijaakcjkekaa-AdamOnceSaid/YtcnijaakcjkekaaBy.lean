/- Rows and bytes: the contracts of adam.Row, adam.Bytes and of the reference's. -/
import Derived.Test.YtcnijaakcjkekaaSm
namespace Go.Proofs.Ytcnijaakcjkekaa
set_option linter.unusedVariables false
open Go.ChangeShapes Go.WideShapes Go.ChangeAt Go.RowKit

theorem ret_b {b b' : Bool} (h' : b = b') : Ending.returned (.bool b) = .returned (.bool b') := by rw [h']
theorem quiet_left {P : Program} {f : FuncId} {args : Array Value} {w : World} {n : Nat} {v : Value}
    (h : Calls P f args (w.drewN n) fun e w' => e = .returned v ∧ w.drewN n = w') : Calls P f args (w.drewN n) fun e w'' => e = .returned v ∧ ∃ m, w'' = w.drewN m :=
  h.mono fun _ _ ⟨he, hm⟩ => ⟨he, n, hm.symm⟩
def sideB (n : Int) : Bool := decide (0 ≤ n ∧ n ≤ 256)
def bitB (n : Int) : Bool := decide (0 ≤ n ∧ n ≤ 64)
def rowV (n b : Int) : Int := if sideB n && bitB b then (n * b + 7) / 8 else 0
theorem sideB_iff (n : Int) : sideB n = true ↔ 0 ≤ n ∧ n ≤ 256 := by simp [sideB]
theorem bitB_iff (n : Int) : bitB n = true ↔ 0 ≤ n ∧ n ≤ 64 := by simp [bitB]
theorem mul_bd (n b N B : Int) (h0 : 0 ≤ n) (h1 : n ≤ N) (h2 : 0 ≤ b) (h3 : b ≤ B) : 0 ≤ n * b ∧ n * b ≤ N * B :=
  ⟨Int.mul_nonneg h0 h2, Int.mul_le_mul h1 h3 h2 (by omega)⟩
theorem row_bd (n b : Int) : 0 ≤ rowV n b ∧ rowV n b ≤ 2048 := by
  unfold rowV
  split
  · rename_i h
    simp only [Bool.and_eq_true] at h
    obtain ⟨h1, h2⟩ := h
    have a1 := (sideB_iff n).1 h1
    have a2 := (bitB_iff b).1 h2
    have := mul_bd n b 256 64 a1.1 a1.2 a2.1 a2.2
    omega
  · omega
theorem side22 (n : Int) (w : World) : Calls Try.prog 22 #[.int .i64 n] w fun e w' => e = .returned (.bool (sideB n)) ∧ w = w' := by
  by_cases h0 : 0 ≤ n
  · by_cases h1 : n ≤ 256
    · have hs : sideB n = true := by simp [sideB, h0, h1]
      have HS := Lib.hid hs
      clear hs
      go_enter Try.func22, Try.ntmps22
      go_wp2
      go_ret
      exact ⟨ret_b HS.out.symm, rfl⟩
    · have hs : sideB n = false := by simp [sideB]; omega
      have HS := Lib.hid hs
      clear hs
      go_enter Try.func22, Try.ntmps22
      go_wp2
      go_ret
      exact ⟨ret_b HS.out.symm, rfl⟩
  · have hs : sideB n = false := by simp [sideB]; omega
    have HS := Lib.hid hs
    clear hs
    go_enter Try.func22, Try.ntmps22
    go_wp2
    go_ret
    exact ⟨ret_b HS.out.symm, rfl⟩
theorem row17 (n b : Int) (w : World) : Calls Try.prog 17 #[.int .i64 n, .int .i64 b] w fun e w' => e = .returned (.int .i64 (rowV n b)) ∧ w = w' := by
  cases hs : sideB n
  · have hv : rowV n b = 0 := by simp [rowV, hs]
    have HV := Lib.hid hv
    clear hv
    go_enter Try.func17, Try.ntmps17
    go_wp2_with (go_at_call 22; refine (side22 _ _).mono ?_; rintro e w' ⟨rfl, rfl⟩)
    go_ret
    exact ⟨ret_i HV.out.symm, rfl⟩
  · obtain ⟨h0, h1⟩ := (sideB_iff n).1 hs
    by_cases h2 : 0 ≤ b
    · by_cases h3 : b ≤ 64
      · have hb := (bitB_iff b).2 ⟨h2, h3⟩
        have hv : rowV n b = (n * b + 7) / 8 := by simp [rowV, hs, hb]
        have HV := Lib.hid hv
        obtain ⟨m0, m1⟩ := mul_bd n b 256 64 h0 h1 h2 h3
        clear hv hb
        go_enter Try.func17, Try.ntmps17
        go_wp2_with (go_at_call 22; refine (side22 _ _).mono ?_; rintro e w' ⟨rfl, rfl⟩)
        go_ret
        exact ⟨ret_i HV.out.symm, rfl⟩
      · have hb : bitB b = false := by simp [bitB]; omega
        have hv : rowV n b = 0 := by simp [rowV, hb]
        have HV := Lib.hid hv
        clear hv hb
        go_enter Try.func17, Try.ntmps17
        go_wp2_with (go_at_call 22; refine (side22 _ _).mono ?_; rintro e w' ⟨rfl, rfl⟩)
        go_ret
        exact ⟨ret_i HV.out.symm, rfl⟩
    · have hb : bitB b = false := by simp [bitB]; omega
      have hv : rowV n b = 0 := by simp [rowV, hb]
      have HV := Lib.hid hv
      clear hv hb
      go_enter Try.func17, Try.ntmps17
      go_wp2_with (go_at_call 22; refine (side22 _ _).mono ?_; rintro e w' ⟨rfl, rfl⟩)
      go_ret
      exact ⟨ret_i HV.out.symm, rfl⟩
theorem row18 (n b : Int) (w : World) : Calls Try.prog 18 #[.int .i64 n, .int .i64 b] w fun e w' => e = .returned (.int .i64 (rowV n b)) ∧ w = w' := by
  by_cases h : (0 ≤ n ∧ n ≤ 256) ∧ (0 ≤ b ∧ b ≤ 64)
  · obtain ⟨⟨h0, h1⟩, h2, h3⟩ := h
    have hv : rowV n b = (n * b + 7) / 8 := by simp [rowV, sideB, bitB, h0, h1, h2, h3]
    have HV := Lib.hid hv
    obtain ⟨m0, m1⟩ := mul_bd n b 256 64 h0 h1 h2 h3
    clear hv
    go_enter Try.func18, Try.ntmps18
    go_wp2
    go_ret
    exact ⟨ret_i HV.out.symm, rfl⟩
  · have hv : rowV n b = 0 := by
      unfold rowV
      rw [if_neg]
      simp only [Bool.and_eq_true, sideB_iff, bitB_iff]
      exact h
    have HV := Lib.hid hv
    clear hv
    have h' : n < 0 ∨ (0 ≤ n ∧ b < 0) ∨ (0 ≤ n ∧ 0 ≤ b ∧ 64 < b) ∨ (0 ≤ n ∧ 0 ≤ b ∧ b ≤ 64 ∧ 256 < n) := by omega
    clear h
    rcases h' with h1 | ⟨h1, h2⟩ | ⟨h1, h2, h3⟩ | ⟨h1, h2, h3, h4⟩
    all_goals
      go_enter Try.func18, Try.ntmps18
      go_wp2
      go_ret
      exact ⟨ret_i HV.out.symm, rfl⟩

/-- A pass's bytes, and all passes'. -/
def passB (p : P6) (b : Int) : Int := if 0 < p.w then p.h * (1 + rowV p.w b) else 0
def sumB (l : List P6) (b : Int) : Int := (l.map fun p => passB p b).sum
def okB (p : P6) : Bool := sideB p.w && sideB p.h
def bytesV (l : List P6) (b : Int) : Int := if l.length ≤ 7 ∧ bitB b = true ∧ l.all okB = true then sumB l b else 0
theorem pass_bd (p : P6) (b : Int) (h : okB p = true) : 0 ≤ passB p b ∧ passB p b ≤ 600000 := by
  unfold passB
  split
  · simp only [okB, Bool.and_eq_true] at h
    have a2 := (sideB_iff _).1 h.2
    have hr := row_bd p.w b
    have := mul_bd p.h (1 + rowV p.w b) 256 2049 a2.1 a2.2 (by omega) (by omega)
    omega
  · omega
theorem sum_snoc (l : List P6) (b : Int) (k : Nat) (p : P6) (hp : l[k]? = some p) : sumB (l.take (k + 1)) b = sumB (l.take k) b + passB p b := by
  have hk := (List.getElem?_eq_some_iff.1 hp).1
  have e := (List.getElem?_eq_some_iff.1 hp).2
  unfold sumB
  rw [List.take_succ_eq_append_getElem hk, e]
  simp
theorem sum_bd (l : List P6) (b : Int) (h : l.all okB = true) : 0 ≤ sumB l b ∧ sumB l b ≤ l.length * 600000 := by
  induction l with
  | nil => simp [sumB]
  | cons p l ih =>
    simp only [List.all_cons, Bool.and_eq_true] at h
    have := pass_bd p b h.1
    have := ih h.2
    simp [sumB] at *
    omega
theorem all_snoc (l : List P6) (k : Nat) (p : P6) (hp : l[k]? = some p) (ha : (l.take k).all okB = true) (ho : okB p = true) : (l.take (k + 1)).all okB = true := by
  have hk := (List.getElem?_eq_some_iff.1 hp).1
  have e := (List.getElem?_eq_some_iff.1 hp).2
  rw [List.take_succ_eq_append_getElem hk, e, List.all_append, ha]
  simp [ho]
theorem not_all (l : List P6) (k : Nat) (p : P6) (hp : l[k]? = some p) (ho : okB p = false) : l.all okB = false := by
  rw [List.all_eq_false]
  exact ⟨p, List.mem_of_getElem? hp, by simp [ho]⟩
end Go.Proofs.Ytcnijaakcjkekaa
