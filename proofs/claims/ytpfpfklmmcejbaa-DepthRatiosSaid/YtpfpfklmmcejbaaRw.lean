/- DepthRatios: the walk. -/
import Derived.Test.YtpfpfklmmcejbaaR
import Derived.Deep.QuietTactic
import Derived.BigQuiet
import Derived.Deep.Draws
import Derived.Below
namespace Go.Proofs.Ytpfpfklmmcejbaa
set_option linter.unusedVariables false
open Go.ChangeShapes Go.WideShapes Go.ChangeAt Go.RowKit

theorem good_iff (x : Nat) (hx : x < 18446744073709551616) : goodB x = true ↔ Good x := by
  unfold goodB Good numB
  rw [sign_neg x hx]
  simp [Bool.and_eq_true]
theorem less_iff (x y : Nat) : lessB x y = true ↔ D64.order x y = some .lt := by
  unfold lessB; simp
theorem better_iff (x y : Nat) : betterB x y = true ↔ goodB x = true ∧ (goodB y = true → lessB x y = true) := by
  unfold betterB
  cases goodB x <;> cases goodB y <;> simp
theorem better_irr (x : Nat) (hx : x < 18446744073709551616) : betterB x x = false := by
  rw [Bool.eq_false_iff]
  intro h
  obtain ⟨h1, h2⟩ := (better_iff _ _).1 h
  have g := (good_iff x hx).1 h1
  exact under_irrefl _ ((less_under x x g g).1 ((less_iff _ _).1 (h2 h1)))
theorem better_trans (x y z : Nat) (hx : x < 18446744073709551616) (hy : y < 18446744073709551616) (hz : z < 18446744073709551616) (h : betterB x y = true) (h' : betterB y z = true) : betterB x z = true := by
  obtain ⟨h1, h2⟩ := (better_iff _ _).1 h
  obtain ⟨h3, h4⟩ := (better_iff _ _).1 h'
  refine (better_iff _ _).2 ⟨h1, fun h5 => (less_iff _ _).2 ?_⟩
  have gx := (good_iff x hx).1 h1
  have gy := (good_iff y hy).1 h3
  have gz := (good_iff z hz).1 h5
  exact (less_under x z gx gz).2 (under_trans _ _ _ ((less_under x y gx gy).1 ((less_iff _ _).1 (h2 h3))) ((less_under y z gy gz).1 ((less_iff _ _).1 (h4 h5))))
theorem better_asym (x y : Nat) (hx : x < 18446744073709551616) (hy : y < 18446744073709551616) (h : betterB x y = true) : betterB y x = false := by
  rw [Bool.eq_false_iff]
  intro h'
  have := better_trans x y x hx hy hx h h'
  rw [better_irr x hx] at this
  cases this

theorem quiet_left {P : Program} {f : FuncId} {args : Array Value} {w : World} {n : Nat} {v : Value}
    (h : Calls P f args (w.drewN n) fun e w' => e = .returned v ∧ w.drewN n = w') : Calls P f args (w.drewN n) fun e w'' => e = .returned v ∧ ∃ m, w'' = w.drewN m :=
  h.mono fun _ _ ⟨he, hm⟩ => ⟨he, n, hm.symm⟩

structure Box3 (B : Nat) (w : World) (l : Nat → Nat) (wr : World) : Prop where
  below : Below B w wr
  cell : ∀ k, k < 3 → wr.cell? ⟨B, k, none⟩ = some (.float .f64 (l k))
theorem Box3.drewN {B : Nat} {w : World} {l : Nat → Nat} {wr : World} (h : Box3 B w l wr) (n : Nat) : Box3 B w l (wr.drewN n) :=
  ⟨⟨h.below.os, h.below.tape, h.below.output, h.below.size, h.below.block⟩, h.cell⟩
def Lt64 (l : Nat → Nat) : Prop := ∀ k, l k < 18446744073709551616

theorem nan_any (x y : Nat) (h : D64.order x x = none) : D64.order x y = none := by
  rcases ord_self x with h' | ⟨_, s, t, h'⟩
  · rw [h'] at h; cases h
  · rw [ord_def, h']
    cases D64.read y <;> rfl
theorem box3_start (l : Nat → Nat) (w : World) : Box3 w.heap.size w l (w.alloc (.cells #[.float .f64 (l 0), .float .f64 (l 1), .float .f64 (l 2)] 33)) where
  below := (Below.refl _ _).alloc (Nat.le_refl _) _
  cell := by
    intro k hk
    have : k = 0 ∨ k = 1 ∨ k = 2 := by omega
    rcases this with rfl | rfl | rfl <;> go_simp
set_option maxRecDepth 100000 in
set_option maxHeartbeats 8000000 in
theorem ratios_walk (l : Nat → Nat) (hl : Lt64 l) (a1 a2 : Int) (w : World) :
    Calls Try.prog 5 #[.agg #[.float .f64 (l 0), .float .f64 (l 1), .float .f64 (l 2)], .int .i64 a1, .int .i64 a2] w fun e w' => e = .returned (.bool true) ∧ Below w.heap.size w w' := by
  go_enter Try.func5, Try.ntmps5
  go_wp2_with (first
      | (go_at_call 8; refine (awake8 _).mono ?_; rintro e w' ⟨rfl, rfl⟩))
  go_loopw [7] (fun i wr => ∃ k : Nat, k ≤ 3 ∧ i = .int .i64 k ∧ Box3 w.heap.size w l wr) (fun i _ => 3 - (intOf i).toNat)
  case atStart => exact ⟨0, by omega, rfl, box3_start l w⟩
  case round =>
    obtain ⟨i, hi, rfl, hB⟩ := hrel
    by_cases hlt : i < 3
    · have ci : (i : Int) < 3 := by omega
      go_wp2
      go_loopw [8] (fun j wr => ∃ k : Nat, k ≤ 3 ∧ j = .int .i64 k ∧ Box3 w.heap.size w l wr) (fun j _ => 3 - (intOf j).toNat)
      case atStart => exact ⟨0, by omega, rfl, hB⟩
      case round =>
        clear hB
        obtain ⟨j, hj, rfl, hB⟩ := hrel
        by_cases hltj : j < 3
        · have cj : (j : Int) < 3 := by omega
          go_wp2
          rename World => wr2
          have hci := hB.cell i hlt
          have hcj := hB.cell j hltj
          cases ha : betterB (l i) (l j)
          · by_cases hij : i = j
            · subst hij
              go_quiet ((go_at_call 15; exact quiet_left (better15 _ _ _)))
              go_wp2
              have hB2 := hB.drewN nq
              have hci2 := hB2.cell i hlt
              have hcj2 := hB2.cell i hltj
              clear hB hci hcj
              generalize wr2.drewN nq = wr3 at *
              go_quiet ((go_at_call 16; exact quiet_left (better16 _ _ (hl _) (hl _) _)))
              go_wp2
              have hB3 := hB2.drewN nq
              clear hB2 hci2 hcj2
              generalize wr3.drewN nq = wr6 at *
              have hB2 := hB3
              have hci2 := hB2.cell i hlt
              have hcj2 := hB2.cell i hltj
              clear hB3
              go_loopw [11] (fun k wr => ∃ n : Nat, n ≤ 3 ∧ k = .int .i64 n ∧ Box3 w.heap.size w l wr) (fun k _ => 3 - (intOf k).toNat)
              case atStart => exact ⟨0, by omega, rfl, hB2⟩
              case round =>
                clear hB2 hci2 hcj2
                obtain ⟨k, hk, rfl, hB⟩ := hrel
                by_cases hltk : k < 3
                · go_wp2
                  rename World => wr4
                  have hci := hB.cell i hlt
                  have hcj := hB.cell i hltj
                  have hck := hB.cell k hltk
                  have ck : (k : Int) < 3 := by omega
                  go_quiet ((go_at_call 15; exact quiet_left (better15 _ _ _)))
                  have hB3 := hB.drewN nq
                  clear hB hci hcj hck
                  generalize wr4.drewN nq = wr5 at *
                  go_wp2
                  go_roundw
                  case rel => exact ⟨k + 1, by omega, by go_num, hB3⟩
                  case measure => simp [intOf]; omega
                · go_wp2
                  go_roundw
                  case rel => exact ⟨i + 1, by omega, by go_num, hB⟩
                  case measure => simp [intOf]; omega
            · have hne : ((i : Int) == (j : Int)) = false := by
                rw [beq_eq_false_iff_ne]
                omega
              go_quiet ((go_at_call 15; exact quiet_left (better15 _ _ _)))
              go_wp2
              have hB2 := hB.drewN nq
              have hci2 := hB2.cell i hlt
              have hcj2 := hB2.cell j hltj
              clear hB hci hcj
              generalize wr2.drewN nq = wr3 at *
              go_quiet ((go_at_call 16; exact quiet_left (better16 _ _ (hl _) (hl _) _)))
              go_wp2
              have hB3 := hB2.drewN nq
              clear hB2 hci2 hcj2
              generalize wr3.drewN nq = wr6 at *
              have hB2 := hB3
              have hci2 := hB2.cell i hlt
              have hcj2 := hB2.cell j hltj
              clear hB3
              go_loopw [11] (fun k wr => ∃ n : Nat, n ≤ 3 ∧ k = .int .i64 n ∧ Box3 w.heap.size w l wr) (fun k _ => 3 - (intOf k).toNat)
              case atStart => exact ⟨0, by omega, rfl, hB2⟩
              case round =>
                clear hB2 hci2 hcj2
                obtain ⟨k, hk, rfl, hB⟩ := hrel
                by_cases hltk : k < 3
                · go_wp2
                  rename World => wr4
                  have hci := hB.cell i hlt
                  have hcj := hB.cell j hltj
                  have hck := hB.cell k hltk
                  have ck : (k : Int) < 3 := by omega
                  go_quiet ((go_at_call 15; exact quiet_left (better15 _ _ _)))
                  have hB3 := hB.drewN nq
                  clear hB hci hcj hck
                  generalize wr4.drewN nq = wr5 at *
                  go_wp2
                  go_roundw
                  case rel => exact ⟨k + 1, by omega, by go_num, hB3⟩
                  case measure => simp [intOf]; omega
                · go_wp2
                  go_roundw
                  case rel => exact ⟨j + 1, by omega, by go_num, hB⟩
                  case measure => simp [intOf]; omega
          · have hb := better_asym _ _ (hl i) (hl j) ha
            have hne : ((i : Int) == (j : Int)) = false := by
              rw [beq_eq_false_iff_ne]
              intro e
              have e' : i = j := by omega
              subst e'
              rw [better_irr _ (hl i)] at ha
              cases ha
            go_quiet ((go_at_call 15; exact quiet_left (better15 _ _ _)))
            go_wp2
            have hB2 := hB.drewN nq
            have hci2 := hB2.cell i hlt
            have hcj2 := hB2.cell j hltj
            clear hB hci hcj
            generalize wr2.drewN nq = wr3 at *
            go_quiet ((go_at_call 16; exact quiet_left (better16 _ _ (hl _) (hl _) _)))
            go_wp2
            have hB3 := hB2.drewN nq
            clear hB2 hci2 hcj2
            generalize wr3.drewN nq = wr6 at *
            have hB2 := hB3
            have hci2 := hB2.cell i hlt
            have hcj2 := hB2.cell j hltj
            clear hB3
            go_loopw [11] (fun k wr => ∃ n : Nat, n ≤ 3 ∧ k = .int .i64 n ∧ Box3 w.heap.size w l wr) (fun k _ => 3 - (intOf k).toNat)
            case atStart => exact ⟨0, by omega, rfl, hB2⟩
            case round =>
              clear hB2 hci2 hcj2
              obtain ⟨k, hk, rfl, hB⟩ := hrel
              by_cases hltk : k < 3
              · go_wp2
                rename World => wr4
                have hci := hB.cell i hlt
                have hcj := hB.cell j hltj
                have hck := hB.cell k hltk
                have ck : (k : Int) < 3 := by omega
                cases hjk : betterB (l j) (l k)
                · go_quiet ((go_at_call 15; exact quiet_left (better15 _ _ _)))
                  have hB3 := hB.drewN nq
                  clear hB hci hcj hck
                  generalize wr4.drewN nq = wr5 at *
                  go_wp2
                  go_roundw
                  case rel => exact ⟨k + 1, by omega, by go_num, hB3⟩
                  case measure => simp [intOf]; omega
                · have hik := better_trans _ _ _ (hl i) (hl j) (hl k) ha hjk
                  go_quiet ((go_at_call 15; exact quiet_left (better15 _ _ _)))
                  have hB3 := hB.drewN nq
                  clear hB hci hcj hck
                  generalize wr4.drewN nq = wr5 at *
                  go_wp2
                  go_roundw
                  case rel => exact ⟨k + 1, by omega, by go_num, hB3⟩
                  case measure => simp [intOf]; omega
              · go_wp2
                go_roundw
                case rel => exact ⟨j + 1, by omega, by go_num, hB⟩
                case measure => simp [intOf]; omega
        · go_wp2
          go_roundw
          case rel => exact ⟨i + 1, by omega, by go_num, hB⟩
          case measure => simp [intOf]; omega
    · rename World => wE
      have hbel := hB.below
      clear hB
      cases hd : D64.div (floatOfInt .f64 a1) (floatOfInt .f64 a2) with
      | some r =>
        have hrr := div_num _ _ _ hd
        have hq := run_quo_num wE _ _ r hd
        go_wp2_with (first
          | (go_at_call 17; refine (ratio17_num _ _ _ hd _).mono ?_; rintro e w' ⟨rfl, rfl⟩)
          | (go_at_call 18; refine (signbit18 _ _).mono ?_; rintro e w' ⟨rfl, rfl⟩))
        go_ret
        exact ⟨rfl, hbel⟩
      | none =>
        have hq := run_quo_nan wE.drew _ _ hd
        have h1 := nanAt_nan wE (floatOfInt .f64 a1) (floatOfInt .f64 a2)
        have h2 := nanAt_nan wE.drew (floatOfInt .f64 a1) (floatOfInt .f64 a2)
        have h3 := nan_any _ (nanAt wE.drew (floatOfInt .f64 a1) (floatOfInt .f64 a2)) h1
        go_wp2_with (first
          | (go_at_call 17; refine (ratio17_nan _ _ hd _).mono ?_; rintro e w' ⟨rfl, rfl⟩)
          | (go_at_call 18; refine (signbit18 _ _).mono ?_; rintro e w' ⟨rfl, rfl⟩))
        go_ret
        exact ⟨rfl, ⟨hbel.os, hbel.tape, hbel.output, hbel.size, hbel.block⟩⟩
end Go.Proofs.Ytpfpfklmmcejbaa
