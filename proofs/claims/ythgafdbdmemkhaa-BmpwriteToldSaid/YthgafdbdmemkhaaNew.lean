/- raster.New, of the program and of the reference. -/
import Derived.Test.YthgafdbdmemkhaaRas
import Derived.Laws.ResultCell
import Derived.Laws.CopyOwn
import Derived.Maps.AppendAt
namespace Go.Proofs.Ythgafdbdmemkhaa
set_option linter.unusedVariables false
open Go.ChangeShapes Go.WideShapes Go.ChangeAt Go.RowKit

theorem info16 : (Try.prog.info? 28).map (fun i => (i.zero, i.size, i.bytes)) = some (some (.int .u16 0), 1, 2) := by kernel_rfl
theorem zeros_get (n j : Nat) (hj : j < n) : (madeCells #[.int .u16 0] n).toList[j]? = some (.int .u16 0) := by
  simp [madeCells, hj, Nat.mod_one]
def zeros (n : Nat) : List Value := (madeCells #[.int .u16 0] n).toList
theorem hp_new0 (w : World) (o : Obj) : (w.alloc o).heap[w.heap.size]? = some o := (MapKept.heap_alloc w o).1
theorem grown_set (w : World) (b i : Nat) (v : Value) : w.grownBy (w.setCell ⟨b, i, none⟩ v) (some b) :=
  ⟨rfl, rfl, rfl, by simp [World.setCell], fun k _ hk => Below.heap_setCell w _ v k (fun e => hk (by rw [e]))⟩
def newPost (a b : Int) (w : World) (e : Ending) (w' : World) : Prop :=
  (sizeE a b = 0 ∧ ∃ v, e = .returned (.tuple #[.agg #[.int .i64 a, .int .i64 b, v], .int .i64 0]) ∧ w'.ownsRow (w.heap.size + 1) 28 1 v (4 * a * b).toNat (zeros (4 * a * b).toNat)) ∨
  (sizeE a b ≠ 0 ∧ e = .returned (.tuple #[.agg #[.int .i64 0, .int .i64 0, .slice none 0 0], .int .i64 (sizeE a b)]))

set_option maxRecDepth 100000 in
set_option maxHeartbeats 1000000 in
theorem new_ref (a b : Int) (ha : In64 a) (hb : In64 b) (w : World) :
    Calls Try.prog 12 #[.int .i64 a, .int .i64 b] w fun e w' => Below w.heap.size w w' ∧ newPost a b w e w' := by
  by_cases hz : sizeE a b = 0
  · obtain ⟨h1, h2, h3, h4, h5⟩ := size_ok hz
    obtain ⟨m10, m11⟩ := mul_bd (4 * a) b 1024 256 (by omega) (by omega) (by omega) h4
    obtain ⟨m, hm⟩ : ∃ m : Nat, 4 * a * b = (m : Int) := ⟨(4 * a * b).toNat, by omega⟩
    have hmt : (4 * a * b).toNat = m := by omega
    have hm1 : m ≤ 262144 := by omega
    have hz' : (sizeE a b == 0) = true := by simp [hz]
    obtain ⟨i0, hi, hz0, hz1, hz2⟩ := info_parts info16
    have hw1 : wrap64 (4 * a) = 4 * a := IntWalk.wrap64_in _ (by omega)
    have hw2 : wrap64 (4 * a * b) = (m : Int) := (IntWalk.wrap64_in _ (by omega)).trans hm
    have HZ := Lib.hid hz
    have HMT := Lib.hid hmt
    go_enter Try.func12, Try.ntmps12
    go_wp2_with fail
    refine (size_ref _ _ ha hb _).mono ?_
    rintro e w1 ⟨rfl, rfl⟩
    rw [hz]
    go_wp2_with (at_make; refine wpList_make_full _ rfl _ _ 24 rfl (w.heap.size + 1) 28 i0 _ 1 Try.underlying24 hi hz0 hz1 _ _ _ _ m rfl rfl rfl rfl (by rw [hz2]; omega) (by unfold maxLen; omega) (by simp) ?_)
    intro w2 hown2 hgrow2
    have hbx : w2.heap[w.heap.size]? = some (.cells #[.int .i64 0, .int .i64 0, .slice none 0 0] 26 (0, 0)) := (hgrow2.block _ (by simp) (by simp)).trans (hp_new0 w _)
    have k0 : w2.cell? ⟨w.heap.size, 0, none⟩ = some (.int .i64 0) := by simp [World.cell?, hbx]
    have k1 : w2.cell? ⟨w.heap.size, 1, none⟩ = some (.int .i64 0) := by simp [World.cell?, hbx]
    have k2 : w2.cell? ⟨w.heap.size, 2, none⟩ = some (.slice none 0 0) := by simp [World.cell?, hbx]
    have f0 : ∀ j, w2.frozen? ⟨w.heap.size, j, none⟩ = false := fun j => by simp [World.frozen?, hbx]
    go_wp2
    refine bodyPost_ret (v := .tuple #[.agg #[.int .i64 a, .int .i64 b, .slice (some ⟨w.heap.size + 1, 0, none⟩) m m], .int .i64 0]) (by rw [results_cell_tmp rfl]; go_simp) rfl ?_
    refine ⟨((((((Below.refl _ w).alloc (Nat.le_refl _) _).grown hgrow2 (by simp) (fun k e => by cases e)).setCell (p := ⟨w.heap.size, 0, none⟩) (Nat.le_refl _) _).setCell (p := ⟨w.heap.size, 1, none⟩) (Nat.le_refl _) _).setCell (p := ⟨w.heap.size, 2, none⟩) (Nat.le_refl _) _), .inl ⟨HZ.out, _, rfl, ?_⟩⟩
    rw [HMT.out]
    exact ((hown2.kept (grown_set _ _ 0 _) (.inr (by simp [Value.ownBlock]))).kept (grown_set _ _ 1 _) (.inr (by simp [Value.ownBlock]))).kept (grown_set _ _ 2 _) (.inr (by simp [Value.ownBlock]))
  · have hz' : (sizeE a b == 0) = false := by simp [hz]
    go_enter Try.func12, Try.ntmps12
    go_wp2_with fail
    refine (size_ref _ _ ha hb _).mono ?_
    rintro e w1 ⟨rfl, rfl⟩
    go_wp2
    refine bodyPost_ret (v := .tuple #[.agg #[.int .i64 0, .int .i64 0, .slice none 0 0], .int .i64 (sizeE a b)]) (by rw [results_cell_tmp rfl]; go_simp) rfl ?_
    exact ⟨(Below.refl _ _).alloc (Nat.le_refl _) _, .inr ⟨hz, rfl⟩⟩


end Go.Proofs.Ythgafdbdmemkhaa
