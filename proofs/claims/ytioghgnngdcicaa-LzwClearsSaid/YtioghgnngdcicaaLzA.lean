/- Layer 7's awake. -/
import Derived.Test.YtioghgnngdcicaaLzV2
namespace Go.Proofs.Ytioghgnngdcicaa
set_option linter.unusedVariables false
open Go.ChangeShapes Go.WideShapes Go.ChangeAt Go.RowKit

theorem byt_new (w : World) (l : List Nat) (cs : Array Value) (hcs : cs.toList = cellsB l) : Byt (w.alloc (.cells cs 5)) (some ⟨w.heap.size, 0, none⟩) l.length (gz l) := fun hl =>
  ⟨_, 0, rfl, by simp, fun j hj => hp_cell (hp_new0 w _) (by
    rw [Nat.zero_add, ← Array.getElem?_toList, hcs]
    simp [cellsB, gz, hj])⟩
theorem aw_read : lzwV (gz [140, 10]) 2 2 9 = ([1, 2], 0) := by decide +kernel
theorem aw_len : (lzwE 2 [1, 2, 1, 2, 3]).length = 3 := by decide +kernel
theorem aw_back : lzwV (gz (lzwE 2 [1, 2, 1, 2, 3])) 3 2 9 = ([1, 2, 1, 2, 3], 0) := by decide +kernel
theorem aw_gz : (List.range 5).map (gz [1, 2, 1, 2, 3]) = [1, 2, 1, 2, 3] := by decide
theorem aw_s1 : ((strB 2 (gz [1, 2])).toList == [1, 2]) = true := by decide +kernel
theorem aw_s2 : ((strB 5 (gz [1, 2, 1, 2, 3])).toList == [1, 2, 1, 2, 3]) = true := by decide +kernel
theorem aw_all : ∀ i, i < 5 → gz [1, 2, 1, 2, 3] i < 2 ^ 2 := by decide
theorem gz_256 {l : List Nat} (h : l.all (· < 256) = true) (i : Nat) : gz l i < 256 := gz_lt (fun x hx => by simpa using List.all_eq_true.1 h x hx) i
theorem lzwE_lt (sz : Nat) (l : List Nat) (i : Nat) : gz (lzwE sz l) i < 256 := by
  refine gz_lt (fun x hx => ?_) i
  refine pack_lt' false _ (fun v hv => ?_) x hx
  have key : ∀ q : Ez × Option Nat, (∀ v ∈ q.1.bits, v < 2) → ∀ v ∈ endE (2 ^ sz) q, v < 2 := by
    rintro ⟨s, now⟩ hq v hv
    cases now with
    | none =>
      rcases List.mem_append.1 hv with h | h
      · exact hq v h
      · exact numB_lt _ _ _ v h
    | some k =>
      rcases List.mem_append.1 hv with h | h
      · rcases List.mem_append.1 h with h | h
        · exact hq v h
        · exact numB_lt _ _ _ v h
      · exact numB_lt _ _ _ v h
  have step : ∀ (q : Ez × Option Nat) (x : Nat), (∀ v ∈ q.1.bits, v < 2) → ∀ v ∈ (stepE (2 ^ sz) sz q x).1.bits, v < 2 := by
    rintro ⟨s, now⟩ x hq v hv
    unfold stepE at hv
    cases now with
    | none => exact hq v hv
    | some k =>
      dsimp only at hv
      split at hv
      · exact hq v hv
      · unfold Ez.add at hv
        split at hv
        · rcases List.mem_append.1 hv with h | h
          · exact hq v h
          · exact numB_lt _ _ _ v h
        · rcases List.mem_append.1 hv with h | h
          · rcases List.mem_append.1 h with h | h
            · exact hq v h
            · exact numB_lt _ _ _ v h
          · exact numB_lt _ _ _ v h
  have run : ∀ (m : List Nat) (q : Ez × Option Nat), (∀ v ∈ q.1.bits, v < 2) → ∀ v ∈ (m.foldl (stepE (2 ^ sz) sz) q).1.bits, v < 2 := by
    intro m
    induction m with
    | nil => intro q hq; exact hq
    | cons a m ih => intro q hq; exact ih _ (step q a hq)
  refine key _ (run l _ (fun v hv => ?_)) v hv
  have hv' : v ∈ ([] : List Nat) ++ numB false ((2 ^ sz : Nat) : Int) (sz + 1) := hv
  rw [List.nil_append] at hv'
  exact numB_lt _ _ _ v hv'
set_option maxRecDepth 100000 in
set_option maxHeartbeats 4000000 in
theorem awake7 (w : World) : Calls Try.prog 11 #[] w fun e w' => e = .returned (.bool true) ∧ Below w.heap.size w w' := by
  go_enter Try.func11, Try.ntmps11
  go_wp2_with fail
  refine (read_lzw (some ⟨w.heap.size, 0, none⟩) 2 2 (gz [140, 10]) (gz_256 (by decide)) (Nat.le_refl _) (by simp [maxLen]) (by simp) (by omega) 2 9 (by omega) _ (byt_new w [140, 10] _ rfl)).mono ?_
  rw [aw_read]
  rintro e w1 ⟨A1, c1, rfl, hN1, hB1⟩
  have hB1' : Below w.heap.size w w1 := ((Below.refl _ w).alloc (Nat.le_refl _) _).trans (hB1.mono (by simp))
  have HN1 := Lib.hid hN1
  have HB1 := Lib.hid hB1'
  clear hN1 hB1 hB1'
  go_wp2_with fail
  refine (write_any (some ⟨w1.heap.size, 0, none⟩) 5 5 (gz [1, 2, 1, 2, 3]) (gz_256 (by decide)) 2 (by omega) (by omega) (by omega) _ (byt_new w1 [1, 2, 1, 2, 3] _ rfl) aw_all).mono ?_
  rw [aw_gz, aw_len]
  rintro e w2 ⟨A2, c2, rfl, hN2, hB2⟩
  have hB2' : Below w1.heap.size w1 w2 := ((Below.refl _ w1).alloc (Nat.le_refl _) _).trans (hB2.mono (by simp))
  have HN1' := Lib.hid (HN1.out.chgB hB2')
  have HB2 := Lib.hid (HB1.out.trans (hB2'.mono HB1.out.size))
  have HN2 := Lib.hid hN2
  clear hN2 hB2 hB2' HN1 HB1
  go_wp2_with fail
  refine (read_ref A2 3 c2 (gz (lzwE 2 [1, 2, 1, 2, 3])) (lzwE_lt 2 _) HN2.out.le HN2.out.max HN2.out.nil (by omega) 2 9 (by omega) _ HN2.out.byt).mono ?_
  rw [aw_back]
  rintro e w3 ⟨A3, c3, rfl, hN3, hB3⟩
  have r1 : ∀ k, (convert 22 9 (.slice A1 2 c1)).run Try.prog (w3.drewN k) = .ok (.string (strB 2 (gz [1, 2]))) (w3.drewN k) := fun k => run_str (cap := c1) ((HN1'.out.chgB hB3).byt.below (below_drewN (Below.refl _ w3) k))
  have r2 : ∀ k, (convert 22 9 (.slice A3 5 c3)).run Try.prog (w3.drewN k) = .ok (.string (strB 5 (gz [1, 2, 1, 2, 3]))) (w3.drewN k) := fun k => run_str (cap := c3) (hN3.byt.below (below_drewN (Below.refl _ w3) k))
  have r1' := r1 0
  have r2' := r2 0
  simp only [World.drewN_zero] at r1' r2'
  have s1 := aw_s1
  have s2 := aw_s2
  have HB3 := Lib.hid (HB2.out.trans (hB3.mono HB2.out.size))
  clear hN3 hB3 HN1' HB2 HN2
  go_wp2
  go_ret
  exact ⟨rfl, HB3.out⟩
end Go.Proofs.Ytioghgnngdcicaa
