/- Back: a slice of the reference's passes copied into the program's. -/
import Derived.Test.YtcnijaakcjkekaaM
namespace Go.Proofs.Ytcnijaakcjkekaa
set_option linter.unusedVariables false
open Go.ChangeShapes Go.WideShapes Go.ChangeAt Go.RowKit
theorem info32b : (Try.prog.info? 32).map (fun i => (i.zero, i.size, i.bytes)) = some (some (.agg #[.int .i64 0, .int .i64 0, .int .i64 0, .int .i64 0, .int .i64 0, .int .i64 0]), 6, 48) := by kernel_rfl

set_option maxRecDepth 100000 in
set_option maxHeartbeats 1000000 in
theorem back15 (v : Value) (l : List P6) (hl : l.length ≤ 20) (w : World) (hs : Sl w v 6 l.length (cellsL l)) :
    Calls Try.prog 15 #[v] w fun e w' => ∃ v', e = .returned v' ∧ w'.ownsRow w.heap.size 32 6 v' l.length (cellsL l) ∧ Below w.heap.size w w' := by
  obtain ⟨_, A, cap, rfl, hcap, hmax, hcell⟩ := hs
  unfold maxLen at hmax
  obtain ⟨i0, hi, hz0, hz1, hz2⟩ := info_parts info32b
  go_enter Try.func15, Try.ntmps15
  go_wp2
  go_loopw [3, 4] (fun v i wr => ∃ k : Nat, k ≤ l.length ∧ i = .int .i64 k ∧ wr.ownsRow w.heap.size 32 6 v k (cellsL (l.take k)) ∧ Below w.heap.size w wr) (fun _ i _ => l.length - (intOf i).toNat)
  case atStart => exact ⟨0, by omega, rfl, World.ownsRow_nil _ _ _ _, Below.refl _ _⟩
  case round =>
    obtain ⟨k, hk, rfl, hown, hB⟩ := hrel
    by_cases hlt : k < l.length
    · obtain ⟨b, off, rfl, hblt, hc⟩ := hcell (by omega)
      obtain ⟨p, hp⟩ : ∃ p, l[k]? = some p := ⟨l[k], List.getElem?_eq_getElem hlt⟩
      have hcs : ∀ j, j < 6 → wr.cell? ⟨b, off + (k * 6 + j), none⟩ = (cells6 p)[j]? := fun j hj =>
        (hB.cell (p := ⟨b, off + (k * 6 + j), none⟩) hblt).trans ((hc (k * 6 + j) (by omega)).trans (cellsL_get l k p hp j hj))
      have c0 : wr.cell? ⟨b, off + k * 6, none⟩ = some (.int .i64 p.x) := hcs 0 (by omega)
      have c1 : wr.cell? ⟨b, off + k * 6 + 1, none⟩ = some (.int .i64 p.y) := hcs 1 (by omega)
      have c2 : wr.cell? ⟨b, off + k * 6 + 2, none⟩ = some (.int .i64 p.dx) := hcs 2 (by omega)
      have c3 : wr.cell? ⟨b, off + k * 6 + 3, none⟩ = some (.int .i64 p.dy) := hcs 3 (by omega)
      have c4 : wr.cell? ⟨b, off + k * 6 + 4, none⟩ = some (.int .i64 p.w) := hcs 4 (by omega)
      have c5 : wr.cell? ⟨b, off + k * 6 + 5, none⟩ = some (.int .i64 p.h) := hcs 5 (by omega)
      have ck : (k : Int) < (l.length : Int) := by omega
      clear hcs hc hcell
      have HP := Lib.hid hp
      clear hp
      have hne : some b ≠ u3.ownBlock := fun e => by have := (hown.lt b e.symm).1; omega
      have hsz := hB.size
      go_wp2_with fail
      go_region_held3 (fun w' => w'.cell? ⟨b, off + k * 6, none⟩ = some (.int .i64 p.x) ∧ w'.cell? ⟨b, off + k * 6 + 1, none⟩ = some (.int .i64 p.y) ∧ w'.cell? ⟨b, off + k * 6 + 2, none⟩ = some (.int .i64 p.dx) ∧ w'.cell? ⟨b, off + k * 6 + 3, none⟩ = some (.int .i64 p.dy) ∧ w'.cell? ⟨b, off + k * 6 + 4, none⟩ = some (.int .i64 p.w) ∧ w'.cell? ⟨b, off + k * 6 + 5, none⟩ = some (.int .i64 p.h))
        (first | go_keep | (go_split_ands; refine ⟨?_, ?_, ?_, ?_, ?_, ?_⟩ <;> (refine hgrow.cell ?_ hne; assumption)))
        ((refine step_append_lies _ (by rfl) _ _ _ (by rfl) w.heap.size 32 i0 _ 6 48 Try.underlying26 hi hz0 hz1 hz2 rfl (by omega) u3 k (cellsL (l.take k)) (by rfl) ((hown.alloc _).drew) ⟨wr.heap.size, 0, none⟩ 1 1 (cells6 p) (by rfl) (by rfl) (World.news_of_block (cs := (cells6 p).toArray) (t := 32) (fr := (0, 0)) (heap_alloc_new wr _)) (cells6_one p) (by omega) (by unfold maxLen; omega) (by omega) (by simp; omega) (wr.heap.size + 1) (by simp) ?_; intro gg cap_1 w1 hown1 hgrow hat hgl))
      have hB1 : Below w.heap.size w w1 := ((hB.alloc hsz _).drew).grown hgrow (by simp; omega) (fun g hg => (hown.lt g hg).1)
      have hown2 : w1.ownsRow w.heap.size 32 6 (.slice (some ⟨gg, 0, none⟩) (k + 1) cap_1) (k + 1) (cellsL (l.take (k + 1))) := by
        rw [List.take_succ_eq_append_getElem hlt]
        have e : l[k] = p := (List.getElem?_eq_some_iff.1 HP.out).2
        rw [e]
        simpa [cellsL] using hown1
      clear hown1 hgrow hown hB hat
      go_wp2
      go_roundw
      case rel => exact ⟨k + 1, by omega, by go_num, hown2, hB1⟩
      case measure => simp [intOf]; omega
    · obtain rfl : k = l.length := by omega
      go_wp2
      go_ret
      exact ⟨_, rfl, by simpa using hown, hB⟩
end Go.Proofs.Ytcnijaakcjkekaa
