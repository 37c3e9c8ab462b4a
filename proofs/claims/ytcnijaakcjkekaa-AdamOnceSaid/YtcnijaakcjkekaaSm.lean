/- same: two rows of passes that are the same are told so; the law's awake; AdamPasses' walk. -/
import Derived.Test.YtcnijaakcjkekaaRp
import Derived.Deep.QuietTactic
import Derived.BigQuiet
namespace Go.Proofs.Ytcnijaakcjkekaa
set_option linter.unusedVariables false
open Go.ChangeShapes Go.WideShapes Go.ChangeAt Go.RowKit

set_option maxRecDepth 100000 in
set_option maxHeartbeats 1000000 in
theorem same8 (v v' : Value) (l : List P6) (w : World) (hs : Sl w v 6 l.length (cellsL l)) (hs' : Sl w v' 6 l.length (cellsL l)) :
    Calls Try.prog 8 #[v, v'] w fun e w' => e = .returned (.bool true) ∧ Below w.heap.size w w' := by
  obtain ⟨_, A, cap, rfl, hcap, hmax, hcell⟩ := hs
  obtain ⟨_, A', cap', rfl, hcap', hmax', hcell'⟩ := hs'
  unfold maxLen at hmax hmax'
  go_enter Try.func8, Try.ntmps8
  go_wp2
  go_loopw [5] (fun i wr => ∃ k : Nat, k ≤ l.length ∧ i = .int .i64 k ∧ Below w.heap.size w wr) (fun i _ => l.length - (intOf i).toNat)
  case atStart => exact ⟨0, by omega, rfl, Below.refl _ _⟩
  case round =>
    obtain ⟨k, hk, rfl, hB⟩ := hrel
    by_cases hlt : k < l.length
    · obtain ⟨b, off, rfl, hblt, hc⟩ := hcell (by omega)
      obtain ⟨b', off', rfl, hblt', hc'⟩ := hcell' (by omega)
      obtain ⟨p, hp⟩ : ∃ p, l[k]? = some p := ⟨l[k], List.getElem?_eq_getElem hlt⟩
      have hcs : ∀ j, j < 6 → wr.cell? ⟨b, off + (k * 6 + j), none⟩ = (cells6 p)[j]? := fun j hj =>
        (hB.cell (p := ⟨b, off + (k * 6 + j), none⟩) hblt).trans ((hc (k * 6 + j) (by omega)).trans (cellsL_get l k p hp j hj))
      have hcs' : ∀ j, j < 6 → wr.cell? ⟨b', off' + (k * 6 + j), none⟩ = (cells6 p)[j]? := fun j hj =>
        (hB.cell (p := ⟨b', off' + (k * 6 + j), none⟩) hblt').trans ((hc' (k * 6 + j) (by omega)).trans (cellsL_get l k p hp j hj))
      have c0 : wr.cell? ⟨b, off + k * 6, none⟩ = some (.int .i64 p.x) := hcs 0 (by omega)
      have c1 : wr.cell? ⟨b, off + k * 6 + 1, none⟩ = some (.int .i64 p.y) := hcs 1 (by omega)
      have c2 : wr.cell? ⟨b, off + k * 6 + 2, none⟩ = some (.int .i64 p.dx) := hcs 2 (by omega)
      have c3 : wr.cell? ⟨b, off + k * 6 + 3, none⟩ = some (.int .i64 p.dy) := hcs 3 (by omega)
      have c4 : wr.cell? ⟨b, off + k * 6 + 4, none⟩ = some (.int .i64 p.w) := hcs 4 (by omega)
      have c5 : wr.cell? ⟨b, off + k * 6 + 5, none⟩ = some (.int .i64 p.h) := hcs 5 (by omega)
      have d0 : wr.cell? ⟨b', off' + k * 6, none⟩ = some (.int .i64 p.x) := hcs' 0 (by omega)
      have d1 : wr.cell? ⟨b', off' + k * 6 + 1, none⟩ = some (.int .i64 p.y) := hcs' 1 (by omega)
      have d2 : wr.cell? ⟨b', off' + k * 6 + 2, none⟩ = some (.int .i64 p.dx) := hcs' 2 (by omega)
      have d3 : wr.cell? ⟨b', off' + k * 6 + 3, none⟩ = some (.int .i64 p.dy) := hcs' 3 (by omega)
      have d4 : wr.cell? ⟨b', off' + k * 6 + 4, none⟩ = some (.int .i64 p.w) := hcs' 4 (by omega)
      have d5 : wr.cell? ⟨b', off' + k * 6 + 5, none⟩ = some (.int .i64 p.h) := hcs' 5 (by omega)
      have ck : (k : Int) < (l.length : Int) := by omega
      clear hcs hc hcell hcs' hc' hcell' hp
      go_wp2_with fail
      go_quiet (fail)
      go_wp2
      go_roundw
      case rel => exact ⟨k + 1, by omega, by go_num, below_drewN hB _⟩
      case measure => simp [intOf]; omega
    · go_wp2
      go_ret
      exact ⟨rfl, hB⟩
end Go.Proofs.Ytcnijaakcjkekaa
