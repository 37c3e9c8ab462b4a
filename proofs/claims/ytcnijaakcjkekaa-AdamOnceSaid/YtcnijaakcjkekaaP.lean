/- The program's passes: the contract of adam.Passes and adam.Whole. -/
import Derived.Test.YtcnijaakcjkekaaM
namespace Go.Proofs.Ytcnijaakcjkekaa
set_option linter.unusedVariables false
open Go.ChangeShapes Go.WideShapes Go.ChangeAt Go.RowKit

def sevenL (a b : Int) : List P6 := [ofL 0 0 8 8 a b, ofL 4 0 8 8 a b, ofL 0 4 4 8 a b, ofL 2 0 4 4 a b, ofL 0 2 2 4 a b, ofL 1 0 2 2 a b, ofL 0 1 1 2 a b]
def good6 (p : P6) : Bool := decide (0 < p.w) && decide (0 < p.h)
def passesL (a b : Int) : List P6 := if sizeE a b = 0 then (sevenL a b).filter good6 else []

theorem wpList_build_eq {P : Program} {ops : Array Oper} {rest : List Oper} {o : Oper} {a : Act} {w : World} {Q : Exit → Act → World → Prop} (hg : o.guard = none) (t : TypeId) (l : List (Nat × Operand)) (ho : o.op = .build t l.toArray)
    (vals : List (Nat × Value)) (hv : l.map (fun x => (x.1, a.eval x.2)) = vals) (v : Value) (hrun : (Instr.build t vals.toArray).run P w = .ok v w)
    (h : wpList P ops Q rest (a.put o.dst v) w) : wpList P ops Q (o :: rest) a w := by
  refine wpList_plain hg fun K hK => ?_
  subst hv
  unfold Oper.wp
  have e : (execOp a.eval o).run P w = .ok (.value v) w := by
    simp only [execOp, ho, Sem.run_bind, Sem.run_pure, List.map_toArray]
    rw [hrun]
    rfl
  rw [e]
  exact hK _ _ h
/-- The seven passes as one array's cells. -/
def arr7 (a b : Int) : Array Value := (cellsL (sevenL a b)).toArray
theorem arr7_build (a b : Int) (w : World) : (Instr.build 44 #[(0, .agg (arr6 (ofL 0 0 8 8 a b))), (1, .agg (arr6 (ofL 4 0 8 8 a b))), (2, .agg (arr6 (ofL 0 4 4 8 a b))), (3, .agg (arr6 (ofL 2 0 4 4 a b))), (4, .agg (arr6 (ofL 0 2 2 4 a b))), (5, .agg (arr6 (ofL 1 0 2 2 a b))), (6, .agg (arr6 (ofL 0 1 1 2 a b)))]).run Try.prog w = .ok (.agg (arr7 a b)) w := by
  show Sem.run _ _ _ = _
  kernel_rfl
theorem arr7_size (a b : Int) : (arr7 a b).size = 42 := rfl
theorem arr7_one (a b : Int) : (arr7 a b).all (·.oneCell') = true := by kernel_rfl
theorem arr7_index (a b : Int) (k : Nat) (p : P6) (hp : (sevenL a b)[k]? = some p) (w : World) : (Instr.index 44 (.agg (arr7 a b)) (.int .i64 k)).run Try.prog w = .ok (.agg #[.int .i64 p.x, .int .i64 p.y, .int .i64 p.dx, .int .i64 p.dy, .int .i64 p.w, .int .i64 p.h]) w := by
  have hk : k < 7 := by
    have := (List.getElem?_eq_some_iff.1 hp).1
    simpa [sevenL] using this
  have hk7 : k = 0 ∨ k = 1 ∨ k = 2 ∨ k = 3 ∨ k = 4 ∨ k = 5 ∨ k = 6 := by omega
  rcases hk7 with rfl | rfl | rfl | rfl | rfl | rfl | rfl
  all_goals
    cases hp
    show Sem.run _ _ _ = _
    kernel_rfl
theorem info44 : (Try.prog.info? 44).map (·.size) = some 42 := by kernel_rfl
theorem info32 : (Try.prog.info? 32).map (fun i => (i.zero, i.size, i.bytes)) = some (some (.agg #[.int .i64 0, .int .i64 0, .int .i64 0, .int .i64 0, .int .i64 0, .int .i64 0]), 6, 48) := by kernel_rfl

theorem new2_cells (w : World) (o : Obj) (cs : List Value) (t : TypeId) : ∀ j u, cs[j]? = some u → ((w.alloc o).alloc (.cells cs.toArray t)).cell? ((⟨w.heap.size + 1, 0, none⟩ : Addr).add j) = some u := by
  intro j u hu
  have hadd : (⟨w.heap.size + 1, 0, none⟩ : Addr).add j = ⟨w.heap.size + 1, j, none⟩ := by unfold Addr.add; split <;> simp_all
  rw [hadd, cell_of_row _ _ _ _ _ (0, 0) (heap_alloc2_new w o (.cells cs.toArray t))]
  simpa using hu
theorem take_filter_snoc {l : List P6} {k : Nat} {p : P6} (hp : l[k]? = some p) : (l.take (k + 1)).filter good6 = (l.take k).filter good6 ++ (if good6 p then [p] else []) := by
  have hk : k < l.length := (List.getElem?_eq_some_iff.1 hp).1
  rw [List.take_succ_eq_append_getElem hk, List.filter_append]
  have e : l[k] = p := (List.getElem?_eq_some_iff.1 hp).2
  rw [e]
  congr 1
  cases h : good6 p <;> simp [h]
theorem own_snoc {e : TypeId} {w : World} {a b : Int} {B : Nat} {v : Value} {k : Nat} {p : P6} (hp : (sevenL a b)[k]? = some p) (hg : good6 p = true)
    (h : w.ownsRow B e 6 v ((((sevenL a b).take k).filter good6).length + 1) (cellsL (((sevenL a b).take k).filter good6) ++ cells6 p)) :
    w.ownsRow B e 6 v (((sevenL a b).take (k + 1)).filter good6).length (cellsL (((sevenL a b).take (k + 1)).filter good6)) := by
  rw [take_filter_snoc hp, if_pos hg]
  simpa [cellsL] using h
theorem own_skip {e : TypeId} {w : World} {a b : Int} {B : Nat} {v : Value} {k : Nat} {p : P6} (hp : (sevenL a b)[k]? = some p) (hg : good6 p = false)
    (h : w.ownsRow B e 6 v (((sevenL a b).take k).filter good6).length (cellsL (((sevenL a b).take k).filter good6))) :
    w.ownsRow B e 6 v (((sevenL a b).take (k + 1)).filter good6).length (cellsL (((sevenL a b).take (k + 1)).filter good6)) := by
  rw [take_filter_snoc hp, hg]
  simpa using h

set_option maxRecDepth 100000 in
set_option maxHeartbeats 1000000 in
theorem passes10_ok (a b : Int) (ha : 1 ≤ a) (ha' : a ≤ 256) (hb : 1 ≤ b) (hb' : b ≤ 256) (hz : sizeE a b = 0) (w : World) :
    Calls Try.prog 10 #[.int .i64 a, .int .i64 b] w fun e w' => ∃ v, e = .returned v ∧ w'.ownsRow w.heap.size 32 6 v (passesL a b).length (cellsL (passesL a b)) ∧ Below w.heap.size w w' := by
  obtain ⟨i0, hi, hz0, hz1, hz2⟩ := info_parts info32
  go_enter Try.func10, Try.ntmps10
  go_wp2_with (go_at_call 19; refine (size19 _ _ (by omega) (by omega) (by omega) (by omega) _).mono ?_; rintro e w' ⟨rfl, rfl⟩)
  refine (of20 _ _ _ _ _ _ (by omega) (by omega) (by omega) (by omega) (by omega) (by omega) (by omega) (by omega) ha ha' hb hb' _).mono ?_
  rintro e w1 ⟨rfl, hb1⟩
  go_wp2_with fail
  refine (of20 _ _ _ _ _ _ (by omega) (by omega) (by omega) (by omega) (by omega) (by omega) (by omega) (by omega) ha ha' hb hb' _).mono ?_
  rintro e w2 ⟨rfl, hb2⟩
  go_wp2_with fail
  refine (of20 _ _ _ _ _ _ (by omega) (by omega) (by omega) (by omega) (by omega) (by omega) (by omega) (by omega) ha ha' hb hb' _).mono ?_
  rintro e w3 ⟨rfl, hb3⟩
  go_wp2_with fail
  refine (of20 _ _ _ _ _ _ (by omega) (by omega) (by omega) (by omega) (by omega) (by omega) (by omega) (by omega) ha ha' hb hb' _).mono ?_
  rintro e w4 ⟨rfl, hb4⟩
  go_wp2_with fail
  refine (of20 _ _ _ _ _ _ (by omega) (by omega) (by omega) (by omega) (by omega) (by omega) (by omega) (by omega) ha ha' hb hb' _).mono ?_
  rintro e w5 ⟨rfl, hb5⟩
  go_wp2_with fail
  refine (of20 _ _ _ _ _ _ (by omega) (by omega) (by omega) (by omega) (by omega) (by omega) (by omega) (by omega) ha ha' hb hb' _).mono ?_
  rintro e w6 ⟨rfl, hb6⟩
  go_wp2_with fail
  refine (of20 _ _ _ _ _ _ (by omega) (by omega) (by omega) (by omega) (by omega) (by omega) (by omega) (by omega) ha ha' hb hb' _).mono ?_
  rintro e w7 ⟨rfl, hb7⟩
  have hB2 := hb1.trans (hb2.mono hb1.size)
  have hB3 := hB2.trans (hb3.mono hB2.size)
  have hB4 := hB3.trans (hb4.mono hB3.size)
  have hB5 := hB4.trans (hb5.mono hB4.size)
  have hB6 := hB5.trans (hb6.mono hB5.size)
  have hB7 := hB6.trans (hb7.mono hB6.size)
  clear hb1 hb2 hb3 hb4 hb5 hb6 hb7 hB2 hB3 hB4 hB5 hB6 w1 w2 w3 w4 w5 w6
  simp only []
  go_step
  refine wpList_build_eq rfl 44 _ rfl [(0, .agg (arr6 (ofL 0 0 8 8 a b))), (1, .agg (arr6 (ofL 4 0 8 8 a b))), (2, .agg (arr6 (ofL 0 4 4 8 a b))), (3, .agg (arr6 (ofL 2 0 4 4 a b))), (4, .agg (arr6 (ofL 0 2 2 4 a b))), (5, .agg (arr6 (ofL 1 0 2 2 a b))), (6, .agg (arr6 (ofL 0 1 1 2 a b)))] rfl (.agg (arr7 a b)) (arr7_build a b _) ?_
  simp only [Act.put, List.setIfInBounds_toArray, List.set_cons_succ, List.set_cons_zero]
  go_wp2_with (first
    | ((with_reducible show wpList _ _ _ (⟨_, .store 44 _ _, _, _, _, _⟩ :: _) _ _); refine wpList_store_row rfl 44 (.tmp 5) (.tmp 34) rfl w7.heap.size (arr7 a b) rfl rfl 44 _ (heap_alloc_new w7 _) info44 rfl (arr7_one a b) ?_; simp only [Act.put])
    | ((with_reducible show wpList _ _ _ (⟨_, .load 44 _, _, _, _, _⟩ :: _) _ _); refine wpList_load_row rfl 44 (.tmp 5) rfl w7.heap.size rfl 44 (arr7 a b) (0, 0) (.array 7 32) (setRow_heap _ _ _ _ _ _ (heap_alloc_new w7 _)) Try.underlying44 rfl info44 ?_; simp only [Act.put, List.setIfInBounds_toArray, List.set_cons_succ, List.set_cons_zero]))
  have hB0 := hB7.size
  have hB8 : Below w.heap.size w ((w7.alloc (.cells #[.int .i64 0, .int .i64 0, .int .i64 0, .int .i64 0, .int .i64 0, .int .i64 0, .int .i64 0, .int .i64 0, .int .i64 0, .int .i64 0, .int .i64 0, .int .i64 0, .int .i64 0, .int .i64 0, .int .i64 0, .int .i64 0, .int .i64 0, .int .i64 0, .int .i64 0, .int .i64 0, .int .i64 0, .int .i64 0, .int .i64 0, .int .i64 0, .int .i64 0, .int .i64 0, .int .i64 0, .int .i64 0, .int .i64 0, .int .i64 0, .int .i64 0, .int .i64 0, .int .i64 0, .int .i64 0, .int .i64 0, .int .i64 0, .int .i64 0, .int .i64 0, .int .i64 0, .int .i64 0, .int .i64 0, .int .i64 0] 44)).setRow w7.heap.size (arr7 a b)) :=
    below_setRow (hB7.alloc hB0 _) hB0 _
  go_loopw [6, 36] (fun v i wr => ∃ k : Nat, k ≤ 7 ∧ i = .int .i64 k ∧ wr.ownsRow w.heap.size 32 6 v (((sevenL a b).take k).filter good6).length (cellsL (((sevenL a b).take k).filter good6)) ∧ Below w.heap.size w wr) (fun _ i _ => 7 - (intOf i).toNat)
  case atStart => exact ⟨0, by omega, rfl, World.ownsRow_nil _ _ _ _, hB8⟩
  case round =>
    clear hB7 hB8 hB0
    obtain ⟨k, hk, rfl, hown, hB⟩ := hrel
    by_cases hlt : k < 7
    · obtain ⟨p, hp⟩ : ∃ p, (sevenL a b)[k]? = some p := ⟨(sevenL a b)[k], List.getElem?_eq_getElem (by simpa [sevenL] using hlt)⟩
      have hix := arr7_index a b k p hp
      have HP := Lib.hid hp
      clear hp
      have ck : (k : Int) < 7 := by omega
      by_cases hgw : 0 < p.w
      · by_cases hgh : 0 < p.h
        · have hn7 : (((sevenL a b).take k).filter good6).length ≤ 7 := by
            have h1 := List.length_filter_le good6 ((sevenL a b).take k)
            have h2 := List.length_take_le k (sevenL a b)
            omega
          go_wp2_with (at_builtin; refine wpList_append_own _ rfl _ _ 26 rfl w.heap.size 32 i0 _ 6 48 Try.underlying26 hi hz0 hz1 hz2 rfl (by decide) _ _ _ rfl ((hown.alloc _).alloc _) ⟨wr.heap.size + 1, 0, none⟩ 1 1 (cells6 p) rfl rfl ?c1 ?c2 ?c3 ?c4 ?c5 ?_)
          case c1 => exact new2_cells wr _ _ _
          case c2 => exact cells6_one p
          case c3 => unfold maxLen; omega
          case c4 => omega
          case c5 => have := hB.size; simp; omega
          intro v' w1 hown' hgrow _
          have hB1 : Below w.heap.size w w1 := ((hB.alloc hB.size _).alloc (by have := hB.size; simp; omega) _).grown hgrow (by have := hB.size; simp; omega) (fun g hg => (hown.lt g hg).1)
          have hown2 := own_snoc (a := a) (b := b) HP.out (by simp [good6, hgw, hgh]) hown'
          clear hown' hgrow hown hB
          go_wp2
          go_roundw
          case rel => exact ⟨k + 1, by omega, by go_num, hown2, hB1⟩
          case measure => simp [intOf]; omega
        · go_wp2
          go_roundw
          case rel => exact ⟨k + 1, by omega, by go_num, own_skip HP.out (by simp [good6, hgh]) ((hown.alloc _)), hB.alloc hB.size _⟩
          case measure => simp [intOf]; omega
      · go_wp2
        go_roundw
        case rel => exact ⟨k + 1, by omega, by go_num, own_skip HP.out (by simp [good6, hgw]) ((hown.alloc _)), hB.alloc hB.size _⟩
        case measure => simp [intOf]; omega
    · obtain rfl : k = 7 := by omega
      go_wp2
      go_ret
      exact ⟨_, rfl, by simpa [passesL, hz, sevenL] using hown, hB⟩
theorem size_ok {a b : Int} (h : sizeE a b = 0) : 1 ≤ a ∧ a ≤ 256 ∧ 1 ≤ b ∧ b ≤ 256 := by
  unfold sizeE at h
  split at h
  · omega
  · split at h
    · omega
    · omega
def In64 (a : Int) : Prop := -9223372036854775808 ≤ a ∧ a ≤ 9223372036854775807
theorem passes10 (a b : Int) (ha : In64 a) (hb : In64 b) (w : World) :
    Calls Try.prog 10 #[.int .i64 a, .int .i64 b] w fun e w' => ∃ v, e = .returned v ∧ w'.ownsRow w.heap.size 32 6 v (passesL a b).length (cellsL (passesL a b)) ∧ Below w.heap.size w w' := by
  by_cases hz : sizeE a b = 0
  · obtain ⟨h1, h2, h3, h4⟩ := size_ok hz
    exact passes10_ok a b h1 h2 h3 h4 hz w
  · have hz' : (sizeE a b != 0) = true := by simp [hz]
    have hl : passesL a b = [] := by simp [passesL, hz]
    rw [hl]
    have H := Lib.hid hl
    clear hl
    obtain ⟨h1, h2⟩ := ha
    obtain ⟨h3, h4⟩ := hb
    go_enter Try.func10, Try.ntmps10
    go_wp2_with (go_at_call 19; refine (size19 _ _ (by omega) (by omega) (by omega) (by omega) _).mono ?_; rintro e w' ⟨rfl, rfl⟩)
    go_ret
    exact ⟨_, rfl, World.ownsRow_nil _ _ _ _, Below.refl _ _⟩
def wholeL (a b : Int) : List P6 := if sizeE a b = 0 then [ofL 0 0 1 1 a b] else []
theorem one_own (w : World) (B : Nat) (hB : B ≤ w.heap.size) (e : TypeId) (p : P6) : (w.alloc (.cells (cells6 p).toArray e)).ownsRow B e 6 (.slice (some ⟨w.heap.size, 0, none⟩) 1 1) 1 (cells6 p) :=
  ⟨rfl, .inr ⟨w.heap.size, 1, (cells6 p).toArray, rfl, hB, heap_alloc_new w _, Nat.le_refl _, by simp [maxLen], rfl, rfl⟩⟩
theorem whole12 (a b : Int) (ha : In64 a) (hb : In64 b) (w : World) :
    Calls Try.prog 12 #[.int .i64 a, .int .i64 b] w fun e w' => ∃ v, e = .returned v ∧ w'.ownsRow w.heap.size 32 6 v (wholeL a b).length (cellsL (wholeL a b)) ∧ Below w.heap.size w w' := by
  obtain ⟨h1, h2⟩ := ha
  obtain ⟨h3, h4⟩ := hb
  by_cases hz : sizeE a b = 0
  · have hl : wholeL a b = [ofL 0 0 1 1 a b] := by simp [wholeL, hz]
    rw [hl]
    have H := Lib.hid hl
    clear hl
    obtain ⟨h1', h2', h3', h4'⟩ := size_ok hz
    go_enter Try.func12, Try.ntmps12
    go_wp2_with (first
      | (go_at_call 19; refine (size19 _ _ (by omega) (by omega) (by omega) (by omega) _).mono ?_; rintro e w' ⟨rfl, rfl⟩))
    refine (of20 _ _ _ _ _ _ (by omega) (by omega) (by omega) (by omega) (by omega) (by omega) (by omega) (by omega) (by omega) (by omega) (by omega) (by omega) _).mono ?_
    rintro e w1 ⟨rfl, hb1⟩
    simp only [arr6, cells6, ofL]
    go_wp2
    go_ret
    exact ⟨_, rfl, by have h := one_own w1 w.heap.size hb1.size 32 (ofL 0 0 1 1 a b); simp [cellsL, cells6, ofL] at h ⊢; exact h, hb1.alloc hb1.size _⟩
  · have hz' : (sizeE a b != 0) = true := by simp [hz]
    have hl : wholeL a b = [] := by simp [wholeL, hz]
    rw [hl]
    have H := Lib.hid hl
    clear hl
    go_enter Try.func12, Try.ntmps12
    go_wp2_with (go_at_call 19; refine (size19 _ _ (by omega) (by omega) (by omega) (by omega) _).mono ?_; rintro e w' ⟨rfl, rfl⟩)
    go_ret
    exact ⟨_, rfl, World.ownsRow_nil _ _ _ _, Below.refl _ _⟩
end Go.Proofs.Ytcnijaakcjkekaa
