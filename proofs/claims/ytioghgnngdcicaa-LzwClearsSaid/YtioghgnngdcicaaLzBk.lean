/- LzwBack: how long it is; Most; a row many times. -/
import Derived.Test.YtioghgnngdcicaaLzD
import Derived.Test.YtioghgnngdcicaaLzL1
namespace Go.Proofs.Ytioghgnngdcicaa
set_option linter.unusedVariables false
open Go.ChangeShapes Go.WideShapes Go.ChangeAt Go.RowKit

theorem clr_bits (s : Ez) (cl sz : Nat) (h : s.wd ≤ 12) : (s.clear cl sz).bits.length ≤ s.bits.length + 12 := by
  show (s.bits ++ numB false (cl : Nat) s.wd).length ≤ _
  rw [List.length_append, numB_len]
  omega
theorem size_run {cl sz : Nat} (hs : sz ≤ 8) (hc : cl ≤ 256) (l : List Nat) (hl : ∀ v ∈ l, v < 256) : ∃ c, (runE cl sz l).1.bits.length ≤ 12 * l.length + 12 + 12 * c ∧ 3838 * c + (runE cl sz l).1.tab.length ≤ l.length := by
  have key : ∀ j, j ≤ l.length → ∃ c, (runE cl sz (l.take j)).1.bits.length ≤ 12 * j + 12 + 12 * c ∧ 3838 * c + (runE cl sz (l.take j)).1.tab.length ≤ j := by
    intro j
    induction j with
    | zero =>
      intro _
      refine ⟨0, ?_, ?_⟩
      · rw [List.take_zero]
        have := clr_bits ⟨[], sz + 1, cl + 2, [], true⟩ cl sz (by show sz + 1 ≤ 12; omega)
        simpa [runE, ez0] using this
      · rw [List.take_zero]
        simp [runE, ez0, Ez.clear]
    | succ j ih =>
      intro hj
      obtain ⟨c, h1, h2⟩ := ih (by omega)
      have hiv := inv_run (cl := cl) (sz := sz) hs hc (l.take j) (fun v hv => hl v (List.mem_of_mem_take hv))
      have hget : l[j]? = some l[j] := List.getElem?_eq_getElem (by omega)
      have htk : l.take (j + 1) = l.take j ++ [l[j]] := by rw [List.take_add_one, hget]; rfl
      rw [htk, runE_snoc]
      obtain ⟨w1, w2, w3, w4, w5⟩ := hiv
      generalize runE cl sz (l.take j) = q at *
      obtain ⟨s, now⟩ := q
      unfold stepE
      cases now with
      | none => exact ⟨c, by show s.bits.length ≤ _; simp only at h1; omega, by show 3838 * c + s.tab.length ≤ _; simp only at h2; omega⟩
      | some k =>
        dsimp only at *
        by_cases hm : (k, l[j]) ∈ s.tab
        · rw [if_pos hm]
          exact ⟨c, by dsimp only; omega, by dsimp only; omega⟩
        · rw [if_neg hm]
          have b1 := put_bits s k w1
          have b2 := put_wd (s := s) k w1
          unfold Ez.add
          by_cases hf : cl + 2 + s.tab.length < 4096
          · rw [if_pos hf]
            refine ⟨c, ?_, ?_⟩
            · show (s.put k).bits.length ≤ _
              omega
            · show 3838 * c + (s.tab ++ [(k, l[j])]).length ≤ _
              rw [List.length_append, List.length_singleton]
              omega
          · rw [if_neg hf]
            have b3 := clr_bits (s.put k) cl sz b2
            refine ⟨c + 1, ?_, ?_⟩
            · show ((s.put k).clear cl sz).bits.length ≤ _
              omega
            · show 3838 * (c + 1) + 0 ≤ _
              omega
  have := key l.length (Nat.le_refl _)
  rwa [List.take_length] at this
theorem size_E (sz : Nat) (h1 : 2 ≤ sz) (h2 : sz ≤ 8) (l : List Nat) (hl : ∀ v ∈ l, v < 256) : (lzwE sz l).length ≤ 2 * l.length + l.length / 4 + 16 := by
  have hc := (cl_bound h1 h2).2
  obtain ⟨c, g1, g2⟩ := size_run (cl := 2 ^ sz) (sz := sz) h2 hc l hl
  have hiv := inv_run (cl := 2 ^ sz) (sz := sz) h2 hc l hl
  unfold lzwE
  rw [pack_len]
  generalize runE (2 ^ sz) sz l = q at *
  obtain ⟨s, now⟩ := q
  obtain ⟨w1, w2, w3, w4, w5⟩ := hiv
  dsimp only at *
  have he : (endE (2 ^ sz) (s, now)).length ≤ s.bits.length + 24 := by
    cases now with
    | none =>
      show (s.bits ++ numB false _ s.wd).length ≤ _
      rw [List.length_append, numB_len]
      omega
    | some k =>
      have b1 := put_bits s k w1
      have b2 := put_wd (s := s) k w1
      show ((s.put k).bits ++ numB false _ (s.put k).wd).length ≤ _
      rw [List.length_append, numB_len]
      omega
  omega
set_option maxRecDepth 100000 in
set_option maxHeartbeats 400000 in
theorem most_any (n : Nat) (hn : n ≤ 1000000) (w : World) : Calls Try.prog 23 #[.int .i64 (n : Nat)] w fun e w' => e = .returned (.int .i64 ((2 * n + n / 4 + 16 : Nat) : Int)) ∧ w = w' := by
  go_enter Try.func23, Try.ntmps23
  go_wp2
  go_ret
  exact ⟨ret_i (by omega), rfl⟩
/-- A row, k times. -/
def rep (k : Nat) (l : List Nat) : List Nat := (List.replicate k l).flatten
theorem rep_succ (k : Nat) (l : List Nat) : rep (k + 1) l = rep k l ++ l := by
  unfold rep
  rw [List.replicate_succ', List.flatten_append]
  simp
theorem rep_len (k : Nat) (l : List Nat) : (rep k l).length = k * l.length := by
  induction k with
  | zero => simp [rep]
  | succ k ih => rw [rep_succ, List.length_append, ih, Nat.add_mul]; omega
theorem rep_mem {k : Nat} {l : List Nat} {v : Nat} (h : v ∈ rep k l) : v ∈ l := by
  unfold rep at h
  obtain ⟨m, hm, hv⟩ := List.mem_flatten.1 h
  rw [(List.mem_replicate.1 hm).2] at hv
  exact hv
theorem rep_get {k : Nat} (hk : 0 < k) (l : List Nat) {p : Nat} (hp : p < l.length) : (rep k l)[p]? = l[p]? := by
  obtain ⟨k, rfl⟩ : ∃ j, k = j + 1 := ⟨k - 1, by omega⟩
  unfold rep
  rw [List.replicate_succ, List.flatten_cons, List.getElem?_append_left hp]
theorem rem200 (m : Nat) : ((m : Nat) : Int).tmod 200 = ((m % 200 : Nat) : Int) := by
  rw [Int.tmod_eq_emod_of_nonneg (by omega)]
  omega
theorem map_gz (l : List Nat) : (List.range l.length).map (gz l) = l := by
  apply List.ext_getElem?
  intro j
  by_cases h : j < l.length
  · simp [h, gz]
  · rw [List.getElem?_eq_none (by simp; omega), List.getElem?_eq_none (by omega)]
theorem byt_gz {w : World} {A : Option Addr} {n : Nat} {b : Nat → Nat} (h : Byt w A n b) : Byt w A ((List.range n).map b).length (gz ((List.range n).map b)) := by
  intro hl
  have hl' : 0 < n := by simpa using hl
  obtain ⟨bk, off, he, hb, hc⟩ := h hl'
  refine ⟨bk, off, he, hb, fun j hj => ?_⟩
  have hj' : j < n := by simpa using hj
  rw [hc j hj']
  simp [gz, hj']
end Go.Proofs.Ytioghgnngdcicaa
