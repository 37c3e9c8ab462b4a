/- The width of GIF's codes. -/
import Derived.Test.YtioghgnngdcicaaEnds
import Derived.Test.YtioghgnngdcicaaLzP
import Derived.StillTailTactics
namespace Go.Proofs.Ytioghgnngdcicaa
set_option linter.unusedVariables false
open Go.ChangeShapes Go.WideShapes Go.ChangeAt Go.RowKit

theorem pow12 {k : Nat} (h : k ≤ 12) : 2 ^ k ≤ 4096 := Nat.pow_le_pow_right (n := 2) (by omega) h
theorem wrap_small (x : Nat) (h : x ≤ 1000000) : wrap64 ((x : Nat) : Int) = ((x : Nat) : Int) := IntWalk.wrap64_in _ (by omega)
theorem i64_small (x : Nat) (h : x ≤ 1000000) : IntKind.i64.wrap ((x : Nat) : Int) = ((x : Nat) : Int) := IntWalk.i64_in _ (by omega)
theorem wrap_pow (k : Nat) (h : k ≤ 12) : wrap64 ((2 : Int) ^ k) = ((2 ^ k : Nat) : Int) := by
  have hp := pow12 h
  rw [show (2 : Int) ^ k = ((2 ^ k : Nat) : Int) by simp]
  exact wrap_small _ (by omega)
theorem run_shl1 (p : Nat) (hp : p ≤ 12) (W : World) : (binOp .shl 3 (.int .i64 1) (.int .i64 (p : Nat))).run Try.prog W = .ok (.int .i64 ((2 ^ p : Nat) : Int)) W := by
  have := run_shl 1 p (by omega) (by omega) W
  simpa using this
set_option maxRecDepth 100000 in
set_option maxHeartbeats 400000 in
theorem clear_w (g o sz : Nat) (hs : sz ≤ 8) (w : World) (h : w.cell? ⟨g, o, none⟩ = some (.int .i64 (sz : Nat))) :
    Calls Try.prog 40 #[.pointer (some ⟨g, o, none⟩)] w fun e w' => e = .returned (.int .i64 ((2 ^ sz : Nat) : Int)) ∧ w = w' := by
  go_enter Try.func40, Try.ntmps40
  go_wp2
  go_ret
  exact ⟨ret_i (wrap_pow sz (by omega)), rfl⟩
set_option maxRecDepth 100000 in
set_option maxHeartbeats 400000 in
theorem may_w (a : Int) (w : World) :
    Calls Try.prog 30 #[.int .i64 a] w fun e w' => e = .returned (.bool (decide (2 ≤ a ∧ a ≤ 8))) ∧ w = w' := by
  go_enter Try.func30, Try.ntmps30
  by_cases h1 : 2 ≤ a
  · by_cases h2 : a ≤ 8
    · go_wp2
      go_ret
      exact ⟨ret_b (by simp [h1, h2]), rfl⟩
    · go_wp2
      go_ret
      exact ⟨ret_b (by simp [h1, h2]), rfl⟩
  · go_wp2
    go_ret
    exact ⟨ret_b (by simp; omega), rfl⟩
theorem kw1 {w : World} {g o : Nat} {v x : Value} (h : w.cell? ⟨g, o, none⟩ = some v) : (w.setCell ⟨g, o + 1, none⟩ x).drew.cell? ⟨g, o, none⟩ = some v := by
  show (w.setCell ⟨g, o + 1, none⟩ x).cell? ⟨g, o, none⟩ = some v
  rw [World.cell?_setCell_other _ _ _ _ (fun e => by have := congrArg Addr.off e; simp at this)]
  exact h
theorem kw2 {w : World} {g o : Nat} {v x y : Value} (h : w.cell? ⟨g, o, none⟩ = some v) : ((w.setCell ⟨g, o + 1, none⟩ y).setCell ⟨g, o + 2, none⟩ x).drew.cell? ⟨g, o, none⟩ = some v := by
  show ((w.setCell ⟨g, o + 1, none⟩ y).setCell ⟨g, o + 2, none⟩ x).cell? ⟨g, o, none⟩ = some v
  rw [World.cell?_setCell_other _ _ _ _ (fun e => by have := congrArg Addr.off e; simp at this)]
  exact kw1 h
/-- Two numbers of a block are set. -/
structure SetW (g o : Nat) (x y : Int) (w w' : World) : Prop where
  chg : Chg [g] w w'
  blk : ∀ cs T, w.heap[g]? = some (.cells cs T (0, 0)) → w'.heap[g]? = some (.cells ((cs.setIfInBounds (o + 1) (.int .i64 x)).setIfInBounds (o + 2) (.int .i64 y)) T (0, 0))
theorem SetW.mk2 (g o : Nat) (x y : Int) (w : World) (n : Nat) : SetW g o x y w (((w.setCell ⟨g, o + 1, none⟩ (.int .i64 x)).setCell ⟨g, o + 2, none⟩ (.int .i64 y)).drewN n) :=
  ⟨((((Chg.refl _ w).set (.inl (by simp)) _ _).set (.inl (by simp)) _ _).drewN n), fun cs T h => heap_set (W := w.setCell ⟨g, o + 1, none⟩ (.int .i64 x)) (heap_set h)⟩
theorem SetW.to {g o : Nat} {x y x' y' : Int} {w w' : World} (hx : x = x') (hy : y = y') (h : SetW g o x y w w') : SetW g o x' y' w w' := by subst hx hy; exact h
theorem wrap_pow2 (k : Nat) (h : k ≤ 12) : IntKind.i64.wrap ((2 : Int) ^ k + 2) = ((2 ^ k + 2 : Nat) : Int) := by
  have hp := pow12 h
  rw [show (2 : Int) ^ k + 2 = ((2 ^ k + 2 : Nat) : Int) by simp]
  exact i64_small _ (by omega)
/-- Three cells in the midst of a block: size, bits, next. -/
structure W3 (g o : Nat) (sz bs nx : Nat) (w : World) : Prop where
  c0 : w.cell? ⟨g, o, none⟩ = some (.int .i64 (sz : Nat))
  c1 : w.cell? ⟨g, o + 1, none⟩ = some (.int .i64 (bs : Nat))
  c2 : w.cell? ⟨g, o + 2, none⟩ = some (.int .i64 (nx : Nat))
  fr : ∀ j, w.frozen? ⟨g, j, none⟩ = false
set_option maxRecDepth 100000 in
set_option maxHeartbeats 400000 in
theorem reset_w (g o sz bs nx : Nat) (hs : sz ≤ 8) (w : World) (h : W3 g o sz bs nx w) :
    Calls Try.prog 31 #[.pointer (some ⟨g, o, none⟩)] w fun e w' => e = .returned (.tuple #[]) ∧ SetW g o ((sz + 1 : Nat) : Int) ((2 ^ sz + 2 : Nat) : Int) w w' := by
  obtain ⟨c0, c1, c2, fr⟩ := h
  have hp := pow12 (k := sz) (by omega)
  have e1 : IntKind.i64.wrap ((sz : Int) + 1) = ((sz + 1 : Nat) : Int) := (IntWalk.i64_in _ (by omega)).trans (by omega)
  go_enter Try.func31, Try.ntmps31
  go_wp2_with fail
  go_region_held3 (fun w' => w'.cell? ⟨g, o, none⟩ = some (.int .i64 (sz : Nat))) (first | with_reducible exact c0 | with_reducible exact kw1 c0 | with_reducible exact kw2 c0 | go_keep) (first | (go_at_call 40; refine (clear_w g o sz hs _ ‹_›).mono ?_; rintro e w' ⟨rfl, rfl⟩))
  all_goals
    go_wp2
    go_end0
    exact ⟨rfl, SetW.to (by omega) (wrap_pow2 sz (by omega)) (SetW.mk2 g o _ _ w 1)⟩
/-- What a number more makes of a width. -/
def growB (bs nx : Nat) : Nat := if nx < 4096 ∧ nx + 1 = 2 ^ bs ∧ bs < 12 then bs + 1 else bs
def growN (nx : Nat) : Nat := if nx < 4096 then nx + 1 else nx
theorem set_same {cs : Array Value} {i : Nat} {x : Value} (h : cs[i]? = some x) : cs.setIfInBounds i x = cs := by
  obtain ⟨hl, he⟩ := Array.getElem?_eq_some_iff.1 h
  apply Array.ext_getElem?
  intro j
  rw [Array.getElem?_setIfInBounds]
  split
  · subst_vars
    simp [hl]
  · rfl
theorem cell_arr {w : World} {g j : Nat} {cs : Array Value} {T : TypeId} {x : Value} (h : w.heap[g]? = some (.cells cs T (0, 0))) (hc : w.cell? ⟨g, j, none⟩ = some x) : cs[j]? = some x := by
  unfold World.cell? at hc
  simp [h] at hc
  exact hc
theorem SetW.mk0 (g o bs nx : Nat) (w : World) (c1 : w.cell? ⟨g, o + 1, none⟩ = some (.int .i64 (bs : Nat))) (c2 : w.cell? ⟨g, o + 2, none⟩ = some (.int .i64 (nx : Nat))) : SetW g o ((bs : Nat) : Int) ((nx : Nat) : Int) w w :=
  ⟨Chg.refl _ w, fun cs T h => by rw [set_same (cell_arr h c1), set_same (cell_arr h c2)]; exact h⟩
theorem SetW.mkx (g o bs nx : Nat) (w : World) (n : Nat) (c1 : w.cell? ⟨g, o + 1, none⟩ = some (.int .i64 (bs : Nat))) :
    SetW g o ((bs + 1 : Nat) : Int) ((nx + 1 : Nat) : Int) w (((w.drewN n).setCell ⟨g, o + 2, none⟩ (.int .i64 ((nx : Int) + 1))).setCell ⟨g, o + 1, none⟩ (.int .i64 ((bs : Int) + 1))) :=
  ⟨((((Chg.refl _ w).drewN n).set (.inl (by simp)) _ _).set (.inl (by simp)) _ _), fun cs T h => by
    rw [show ((nx + 1 : Nat) : Int) = (nx : Int) + 1 by omega, show ((bs + 1 : Nat) : Int) = (bs : Int) + 1 by omega]
    have := heap_set (i := o + 1) (x := .int .i64 ((bs : Int) + 1)) (heap_set (W := w.drewN n) (i := o + 2) (x := .int .i64 ((nx : Int) + 1)) h)
    rw [this, Array.setIfInBounds_comm _ _ (by omega)]⟩
theorem SetW.mk1 (g o : Nat) (y x0 : Int) (w : World) (n : Nat) (c1 : w.cell? ⟨g, o + 1, none⟩ = some (.int .i64 x0)) : SetW g o x0 y w ((w.setCell ⟨g, o + 2, none⟩ (.int .i64 y)).drewN n) :=
  ⟨(((Chg.refl _ w).set (.inl (by simp)) _ _).drewN n), fun cs T h => by rw [set_same (cell_arr h c1)]; exact heap_set h⟩
set_option maxRecDepth 100000 in
set_option maxHeartbeats 400000 in
theorem grow_w (g o sz bs nx : Nat) (hb : bs ≤ 12) (hn : nx ≤ 4096) (w : World) (h : W3 g o sz bs nx w) :
    Calls Try.prog 48 #[.pointer (some ⟨g, o, none⟩)] w fun e w' => e = .returned (.bool (decide (nx < 4096))) ∧ SetW g o ((growB bs nx : Nat) : Int) ((growN nx : Nat) : Int) w w' := by
  obtain ⟨c0, c1, c2, fr⟩ := h
  have hp := pow12 hb
  by_cases hlt : nx < 4096
  · have hd : decide (nx < 4096) = true := by simp; omega
    rw [hd]
    have gn : growN nx = nx + 1 := by unfold growN; rw [if_pos hlt]
    by_cases he : nx + 1 = 2 ^ bs
    · have e2 : (((nx : Int) + 1) == wrap64 ((2 : Int) ^ bs)) = true := by rw [wrap_pow bs hb, beq_iff_eq]; omega
      by_cases h12 : bs < 12
      · have gb : growB bs nx = bs + 1 := by unfold growB; rw [if_pos ⟨hlt, he, h12⟩]
        have e3 : decide ((bs : Int) < 12) = true := by simp; omega
        have GB := Lib.hid gb
        have GN := Lib.hid gn
        clear gb gn he hd
        go_enter Try.func48, Try.ntmps48
        go_wp2_with fail
        go_quiet (fail)
        go_wp2
        go_ret
        rw [GB.out, GN.out]
        exact ⟨rfl, SetW.mkx g o bs nx w nq c1⟩
      · have gb : growB bs nx = bs := by unfold growB; rw [if_neg (by omega)]
        have e3 : decide ((bs : Int) < 12) = false := by simp; omega
        have GB := Lib.hid gb
        have GN := Lib.hid gn
        clear gb gn he hd
        go_enter Try.func48, Try.ntmps48
        go_wp2_with fail
        go_quiet (fail)
        go_wp2
        go_ret
        rw [GB.out, GN.out]
        exact ⟨rfl, SetW.mk1 g o _ _ w nq c1⟩
    · have e2 : (((nx : Int) + 1) == wrap64 ((2 : Int) ^ bs)) = false := by rw [wrap_pow bs hb, beq_eq_false_iff_ne]; omega
      have gb : growB bs nx = bs := by unfold growB; rw [if_neg (by omega)]
      have GB := Lib.hid gb
      have GN := Lib.hid gn
      clear gb gn he hd
      go_enter Try.func48, Try.ntmps48
      go_wp2_with fail
      go_quiet (fail)
      go_wp2
      go_ret
      rw [GB.out, GN.out]
      exact ⟨rfl, SetW.mk1 g o _ _ w nq c1⟩
  · have hd : decide (nx < 4096) = false := by simp; omega
    rw [hd]
    have gn : growN nx = nx := by unfold growN; rw [if_neg hlt]
    have gb : growB bs nx = bs := by unfold growB; rw [if_neg (by omega)]
    have GB := Lib.hid gb
    have GN := Lib.hid gn
    clear gb gn hd
    go_enter Try.func48, Try.ntmps48
    go_wp2
    go_ret
    rw [GB.out, GN.out]
    exact ⟨rfl, SetW.mk0 g o bs nx w c1 c2⟩
end Go.Proofs.Ytioghgnngdcicaa
