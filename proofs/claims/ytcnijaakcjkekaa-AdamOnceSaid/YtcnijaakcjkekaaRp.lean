/- The reference's passes: the contracts of engraverref8.Passes and Whole. -/
import Derived.Test.YtcnijaakcjkekaaP
import Derived.Test.YtcnijaakcjkekaaM
namespace Go.Proofs.Ytcnijaakcjkekaa
set_option linter.unusedVariables false
open Go.ChangeShapes Go.WideShapes Go.ChangeAt Go.RowKit

theorem many_step {x d n xk : Int} {k : Nat} (hd : 1 ≤ d) (hx : xk = x + k * d) (h : xk < n) : ((k + 1 : Nat) : Int) ≤ many x d n ∧ xk + d = x + ((k + 1 : Nat) : Int) * d := by
  have hk : (0 : Int) ≤ k * d := Int.mul_nonneg (by omega) (by omega)
  have e : ((k + 1 : Nat) : Int) * d = k * d + d := by rw [Int.natCast_add, Int.add_mul]; simp
  refine ⟨?_, by omega⟩
  unfold many
  rw [if_neg (by omega), Int.le_ediv_iff_mul_le (by omega), e]
  omega
theorem many_exit {x d n xk : Int} {k : Nat} (hd : 1 ≤ d) (hx : xk = x + k * d) (h : ¬ xk < n) (hk : (k : Int) ≤ many x d n) : many x d n = k := by
  have hm : many x d n ≤ k := by
    unfold many
    split
    · omega
    · have h2 : (n - x + d - 1) / d < k + 1 := by
        rw [Int.ediv_lt_iff_lt_mul (by omega), Int.add_mul]
        omega
      omega
  omega
theorem many_bd (x d n : Int) (hx : 0 ≤ x) (hd : 1 ≤ d) (hn : n ≤ 256) : 0 ≤ many x d n ∧ many x d n ≤ 256 := by
  unfold many
  split
  · omega
  · refine ⟨Int.ediv_nonneg (by omega) (by omega), ?_⟩
    have h2 : (n - x + d - 1) / d < 257 := by
      rw [Int.ediv_lt_iff_lt_mul (by omega)]
      omega
    omega

def base7 : List P6 := [⟨0, 0, 8, 8, 0, 0⟩, ⟨4, 0, 8, 8, 0, 0⟩, ⟨0, 4, 4, 8, 0, 0⟩, ⟨2, 0, 4, 4, 0, 0⟩, ⟨0, 2, 2, 4, 0, 0⟩, ⟨1, 0, 2, 2, 0, 0⟩, ⟨0, 1, 1, 2, 0, 0⟩]
theorem base7_spec {k : Nat} (hk : k < 7) (a b : Int) : ∃ p, base7[k]? = some p ∧ 0 ≤ p.x ∧ p.x ≤ 8 ∧ 0 ≤ p.y ∧ p.y ≤ 8 ∧ 1 ≤ p.dx ∧ p.dx ≤ 8 ∧ 1 ≤ p.dy ∧ p.dy ≤ 8 ∧ p.w = 0 ∧ p.h = 0 ∧ (sevenL a b)[k]? = some (ofL p.x p.y p.dx p.dy a b) := by
  have hk7 : k = 0 ∨ k = 1 ∨ k = 2 ∨ k = 3 ∨ k = 4 ∨ k = 5 ∨ k = 6 := by omega
  rcases hk7 with rfl | rfl | rfl | rfl | rfl | rfl | rfl <;> exact ⟨_, rfl, by decide, by decide, by decide, by decide, by decide, by decide, by decide, by decide, rfl, rfl, rfl⟩
theorem own_le {w : World} {b b' : Nat} (h : b' ≤ b) {e : TypeId} {size n : Nat} {v : Value} {xs : List Value} (ho : w.ownsRow b e size v n xs) : w.ownsRow b' e size v n xs := by
  refine ⟨ho.1, ?_⟩
  rcases ho.2 with h1 | ⟨g, cap, cur, hv, hb, r⟩
  · exact .inl h1
  · exact .inr ⟨g, cap, cur, hv, Nat.le_trans h hb, r⟩
/-- The table's block, in a later world. -/
def Tab (B : Nat) (wr : World) : Prop := ∀ j, j < 42 → wr.cell? ⟨B, j, none⟩ = (cellsL base7)[j]?

set_option maxRecDepth 100000 in
set_option maxHeartbeats 2000000 in
theorem passes11_ok (a b : Int) (ha : 1 ≤ a) (ha' : a ≤ 256) (hb : 1 ≤ b) (hb' : b ≤ 256) (hz : sizeE a b = 0) (w : World) :
    Calls Try.prog 11 #[.int .i64 a, .int .i64 b] w fun e w' => ∃ v, e = .returned v ∧ w'.ownsRow w.heap.size 40 6 v (passesL a b).length (cellsL (passesL a b)) ∧ Below w.heap.size w w' := by
  obtain ⟨i0, hi, hz0, hz1, hz2⟩ := info_parts info40
  go_enter Try.func11, Try.ntmps11
  go_wp2_with (go_at_call 21; refine (size21 _ _ (by omega) (by omega) (by omega) (by omega) _).mono ?_; rintro e w' ⟨rfl, rfl⟩)
  go_loopw [6, 7] (fun v i wr => ∃ k : Nat, k ≤ 7 ∧ i = .int .i64 k ∧ wr.ownsRow (w.heap.size + 1) 40 6 v (((sevenL a b).take k).filter good6).length (cellsL (((sevenL a b).take k).filter good6)) ∧ Below w.heap.size w wr ∧ w.heap.size + 1 ≤ wr.heap.size ∧ Tab w.heap.size wr) (fun _ i _ => 7 - (intOf i).toNat)
  case atStart =>
    refine ⟨0, by omega, rfl, World.ownsRow_nil _ _ _ _, (Below.refl _ _).alloc (Nat.le_refl _) _, by simp, ?_⟩
    intro j hj
    rw [cell_of_row _ _ _ _ _ _ (heap_alloc_new w _)]
    have e : (cellsL base7).toArray[j]? = (cellsL base7)[j]? := by simp
    rw [← e]
    rfl
  case round =>
    obtain ⟨k, hk, rfl, hown, hB, hsz, hT⟩ := hrel
    by_cases hlt : k < 7
    · obtain ⟨p, hp, p1, p2, p3, p4, p5, p6, p7, p8, p9, p10, hp7⟩ := base7_spec hlt a b
      have hcs : ∀ j, j < 6 → wr.cell? ⟨w.heap.size, k * 6 + j, none⟩ = (cells6 p)[j]? := fun j hj =>
        (hT (k * 6 + j) (by omega)).trans (cellsL_get base7 k p hp j hj)
      have c0 : wr.cell? ⟨w.heap.size, k * 6, none⟩ = some (.int .i64 p.x) := hcs 0 (by omega)
      have c1 : wr.cell? ⟨w.heap.size, k * 6 + 1, none⟩ = some (.int .i64 p.y) := hcs 1 (by omega)
      have c2 : wr.cell? ⟨w.heap.size, k * 6 + 2, none⟩ = some (.int .i64 p.dx) := hcs 2 (by omega)
      have c3 : wr.cell? ⟨w.heap.size, k * 6 + 3, none⟩ = some (.int .i64 p.dy) := hcs 3 (by omega)
      have c4 : wr.cell? ⟨w.heap.size, k * 6 + 4, none⟩ = some (.int .i64 0) := (hcs 4 (by omega)).trans (by simp [cells6, p9])
      have c5 : wr.cell? ⟨w.heap.size, k * 6 + 5, none⟩ = some (.int .i64 0) := (hcs 5 (by omega)).trans (by simp [cells6, p10])
      have ck : (k : Int) < 7 := by omega
      clear hcs hp p9 p10
      have HP := Lib.hid hp7
      clear hp7
      have hm1 := many_bd p.x p.dx a p1 p5 ha'
      have hm2 := many_bd p.y p.dy b p3 p7 hb'
      go_wp2_with fail
      rename World => wo
      go_loopw [9] (fun x wr => ∃ (n : Nat) (xk : Int), x = .int .i64 xk ∧ 0 ≤ xk ∧ xk ≤ 300 ∧ Hid (xk = p.x + n * p.dx) ∧ (n : Int) ≤ many p.x p.dx a ∧
          wr = wo.alloc (.cells #[.int .i64 p.x, .int .i64 p.y, .int .i64 p.dx, .int .i64 p.dy, .int .i64 n, .int .i64 0] 40)) (fun x _ => 300 - (intOf x).toNat)
      case atStart => exact ⟨0, p.x, rfl, by omega, by omega, (by simp : p.x = p.x + ((0 : Nat) : Int) * p.dx), by simp; omega, rfl⟩
      case round =>
        obtain ⟨n, xk, rfl, hx1, hx2, HX, hn, rfl⟩ := hrel
        by_cases hxa : xk < a
        · have hst := many_step p5 HX.out hxa
          have hst1 := hst.1
          have HS := Lib.hid hst.2
          clear hst
          go_wp2_with fail
          go_roundw
          case rel => exact ⟨n + 1, xk + p.dx, rfl, by omega, by omega, HS.out, hst1, by simp⟩
          case measure => simp [intOf]; omega
        · have hex := many_exit p5 HX.out hxa hn
          clear HX
          have HE := Lib.hid hex
          clear hex
          go_wp2_with fail
          go_loopw [10] (fun y wr => ∃ (m : Nat) (yk : Int), y = .int .i64 yk ∧ 0 ≤ yk ∧ yk ≤ 300 ∧ Hid (yk = p.y + m * p.dy) ∧ (m : Int) ≤ many p.y p.dy b ∧
              wr = wo.alloc (.cells #[.int .i64 p.x, .int .i64 p.y, .int .i64 p.dx, .int .i64 p.dy, .int .i64 n, .int .i64 m] 40)) (fun y _ => 300 - (intOf y).toNat)
          case atStart => exact ⟨0, p.y, rfl, by omega, by omega, (by simp : p.y = p.y + ((0 : Nat) : Int) * p.dy), by simp; omega, rfl⟩
          case round =>
            obtain ⟨m, yk, rfl, hy1, hy2, HY, hm, rfl⟩ := hrel
            by_cases hyb : yk < b
            · have hst := many_step p7 HY.out hyb
              have hst1 := hst.1
              have HS := Lib.hid hst.2
              clear hst
              go_wp2_with fail
              go_roundw
              case rel => exact ⟨m + 1, yk + p.dy, rfl, by omega, by omega, HS.out, hst1, by simp⟩
              case measure => simp [intOf]; omega
            · have HF := Lib.hid (many_exit p7 HY.out hyb hm)
              clear HY
              have hofl : ofL p.x p.y p.dx p.dy a b = ⟨p.x, p.y, p.dx, p.dy, n, m⟩ := by unfold ofL; rw [HE.out, HF.out]
              have HO := Lib.hid hofl
              clear hofl
              by_cases hgw : 0 < n
              · by_cases hgh : 0 < m
                · have hn7 : (((sevenL a b).take k).filter good6).length ≤ 7 := by
                    have h1 := List.length_filter_le good6 ((sevenL a b).take k)
                    have h2 := List.length_take_le k (sevenL a b)
                    omega
                  have cgw : (0 : Int) < (n : Int) := by omega
                  have cgh : (0 : Int) < (m : Int) := by omega
                  go_wp2_with (at_builtin; refine wpList_append_own _ rfl _ _ 24 rfl (w.heap.size + 1) 40 i0 _ 6 48 Try.underlying24 hi hz0 hz1 hz2 rfl (by decide) _ _ _ rfl ((hown.alloc _).alloc _) ⟨wo.heap.size + 1, 0, none⟩ 1 1 (cells6 ⟨p.x, p.y, p.dx, p.dy, n, m⟩) rfl rfl ?c1 ?c2 ?c3 ?c4 ?c5 ?_)
                  case c1 => exact fun j u h => h
                  case c2 => exact cells6_one _
                  case c3 => unfold maxLen; omega
                  case c4 => omega
                  case c5 => omega
                  intro v' w1 hown' hgrow _
                  have hB1 : Below (w.heap.size + 1) wo w1 := (((Below.refl _ _).alloc hsz _).alloc (by simp; omega) _).grown hgrow (by simp; omega) (fun g hg => (hown.lt g hg).1)
                  have hown2 := own_snoc (e := 40) (a := a) (b := b) (HP.out.trans (congrArg some HO.out)) (by simp [good6, hgw, hgh]) hown'
                  have hT1 : Tab w.heap.size w1 := fun j hj => (hB1.cell (p := ⟨w.heap.size, j, none⟩) (by simp)).trans (hT j hj)
                  have hB2 : Below w.heap.size w w1 := hB.trans (hB1.mono (by omega))
                  have hsz1 : w.heap.size + 1 ≤ w1.heap.size := Nat.le_trans hsz hB1.size
                  clear hown' hgrow hown hB hB1 hT hsz
                  go_wp2
                  go_roundw
                  case rel => exact ⟨k + 1, by omega, by go_num, hown2, hB2, hsz1, hT1⟩
                  case measure => simp [intOf]; omega
                · obtain rfl : m = 0 := by omega
                  have hown2 := own_skip (e := 40) (HP.out.trans (congrArg some HO.out)) (by simp [good6]) (hown.alloc (.cells #[.int .i64 p.x, .int .i64 p.y, .int .i64 p.dx, .int .i64 p.dy, .int .i64 n, .int .i64 0] 40))
                  go_wp2
                  go_roundw
                  case rel => exact ⟨k + 1, by omega, by go_num, hown2, hB.alloc (by omega) _, by simp; omega, fun j hj => (((Below.refl (w.heap.size + 1) wo).alloc hsz _).cell (p := ⟨w.heap.size, j, none⟩) (by simp)).trans (hT j hj)⟩
                  case measure => simp [intOf]; omega
              · obtain rfl : n = 0 := by omega
                have hown2 := own_skip (e := 40) (HP.out.trans (congrArg some HO.out)) (by simp [good6]) (hown.alloc (.cells #[.int .i64 p.x, .int .i64 p.y, .int .i64 p.dx, .int .i64 p.dy, .int .i64 0, .int .i64 m] 40))
                go_wp2
                go_roundw
                case rel => exact ⟨k + 1, by omega, by go_num, hown2, hB.alloc (by omega) _, by simp; omega, fun j hj => (((Below.refl (w.heap.size + 1) wo).alloc hsz _).cell (p := ⟨w.heap.size, j, none⟩) (by simp)).trans (hT j hj)⟩
                case measure => simp [intOf]; omega
    · obtain rfl : k = 7 := by omega
      go_wp2
      go_ret
      exact ⟨_, rfl, by simpa [passesL, hz, sevenL] using own_le (Nat.le_succ _) hown, hB⟩
theorem passes11 (a b : Int) (ha : In64 a) (hb : In64 b) (w : World) :
    Calls Try.prog 11 #[.int .i64 a, .int .i64 b] w fun e w' => ∃ v, e = .returned v ∧ w'.ownsRow w.heap.size 40 6 v (passesL a b).length (cellsL (passesL a b)) ∧ Below w.heap.size w w' := by
  by_cases hz : sizeE a b = 0
  · obtain ⟨h1, h2, h3, h4⟩ := size_ok hz
    exact passes11_ok a b h1 h2 h3 h4 hz w
  · have hz' : (sizeE a b != 0) = true := by simp [hz]
    have hl : passesL a b = [] := by simp [passesL, hz]
    rw [hl]
    have H := Lib.hid hl
    clear hl
    obtain ⟨h1, h2⟩ := ha
    obtain ⟨h3, h4⟩ := hb
    go_enter Try.func11, Try.ntmps11
    go_wp2_with (go_at_call 21; refine (size21 _ _ (by omega) (by omega) (by omega) (by omega) _).mono ?_; rintro e w' ⟨rfl, rfl⟩)
    go_ret
    exact ⟨_, rfl, World.ownsRow_nil _ _ _ _, Below.refl _ _⟩
theorem whole13 (a b : Int) (ha : In64 a) (hb : In64 b) (w : World) :
    Calls Try.prog 13 #[.int .i64 a, .int .i64 b] w fun e w' => ∃ v, e = .returned v ∧ w'.ownsRow w.heap.size 40 6 v (wholeL a b).length (cellsL (wholeL a b)) ∧ Below w.heap.size w w' := by
  obtain ⟨h1, h2⟩ := ha
  obtain ⟨h3, h4⟩ := hb
  by_cases hz : sizeE a b = 0
  · have hl : wholeL a b = [ofL 0 0 1 1 a b] := by simp [wholeL, hz]
    rw [hl]
    have H := Lib.hid hl
    clear hl
    obtain ⟨h1', h2', h3', h4'⟩ := size_ok hz
    have ho : ofL 0 0 1 1 a b = ⟨0, 0, 1, 1, a, b⟩ := by
      unfold ofL many
      rw [if_neg (by omega), if_neg (by omega)]
      simp
    have HO := Lib.hid ho
    clear ho
    go_enter Try.func13, Try.ntmps13
    go_wp2_with (go_at_call 21; refine (size21 _ _ (by omega) (by omega) (by omega) (by omega) _).mono ?_; rintro e w' ⟨rfl, rfl⟩)
    go_ret
    exact ⟨_, rfl, by have h := one_own w w.heap.size (Nat.le_refl _) 40 ⟨0, 0, 1, 1, a, b⟩; rw [HO.out]; simp [cellsL, cells6] at h ⊢; exact h, (Below.refl _ _).alloc (Nat.le_refl _) _⟩
  · have hz' : (sizeE a b != 0) = true := by simp [hz]
    have hl : wholeL a b = [] := by simp [wholeL, hz]
    rw [hl]
    have H := Lib.hid hl
    clear hl
    go_enter Try.func13, Try.ntmps13
    go_wp2_with (go_at_call 21; refine (size21 _ _ (by omega) (by omega) (by omega) (by omega) _).mono ?_; rintro e w' ⟨rfl, rfl⟩)
    go_ret
    exact ⟨_, rfl, World.ownsRow_nil _ _ _ _, Below.refl _ _⟩
end Go.Proofs.Ytcnijaakcjkekaa
