/- A row of one value, each code the one that is just being made: the plain law. -/
import Derived.Test.YtioghgnngdcicaaLzPl
namespace Go.Proofs.Ytioghgnngdcicaa
set_option linter.unusedVariables false

/-- Where a reader stands that has read the codes of a row of one value. -/
structure RunD (u sz cl at_ row wd nx : Nat) (d : Cz) : Prop where
  f1 : d.wd = wd
  f2 : nx = cl + 2 + d.rows.length
  f3 : row = d.rows.length + 2
  f4 : d.last = some (List.replicate (row - 1) u)
  f5 : d.out = List.replicate at_ u
  w1 : wd ≤ 12
  w2 : sz + 1 ≤ wd
  w3 : nx < 2 ^ wd ∨ (wd = 12 ∧ nx ≤ 4096)
def wdN (wd nx : Nat) : Nat := if nx + 1 = 2 ^ wd ∧ wd < 12 then wd + 1 else wd
section
variable {B : List Nat} {b : Nat → Nat} {n cl sz most u : Nat}
theorem run_next (hB : Bs B b n) (hs : 2 ≤ sz) (hcl : cl = 2 ^ sz) {at_ row wd nx : Nat} {d : Cz} (h : RunD u sz cl at_ row wd nx d) (hn : nx < 4096) (hat : at_ + row ≤ most) {pre : List Nat} (hp : d.p = pre.length) (hpre : pre ++ numB false ((nx : Nat) : Int) wd <+: B) (K : Nat) (hK : 8 * n - d.p < K + 1) :
    ∃ d', finC b n cl sz most (K + 1) d = finC b n cl sz most K d' ∧ 8 * n - d'.p < K ∧ d'.p = pre.length + wd ∧ RunD u sz cl (at_ + row) (row + 1) (wdN wd nx) (nx + 1) d' := by
  obtain ⟨h1, h2, h3, h4, h5, h6, h7, h8⟩ := h
  have hlt : nx < 2 ^ wd := by
    rcases h8 with h | ⟨h, _⟩
    · exact h
    · rw [h]; exact hn
  obtain ⟨t1, t2⟩ := rd_code hB hpre hlt
  rw [← hp] at t1 t2
  rw [← h1] at t1
  have hbad : badC cl d.rows d.last nx = false := by
    unfold badC
    rw [h4]
    simp
    intro _
    omega
  have hrow : rowC cl d.rows d.last nx = List.replicate row u := by
    unfold rowC
    rw [if_neg (by omega), if_pos h2, h4]
    obtain ⟨j, hj⟩ : ∃ j, row = j + 2 := ⟨row - 2, by omega⟩
    rw [hj, show j + 2 - 1 = j + 1 by omega, Option.getD_some]
    have : (List.replicate (j + 1) u).headD 0 = u := by rw [List.replicate_succ]; rfl
    rw [this, ← List.replicate_succ']
  have hpw : 2 ^ (sz + 1) ≤ 2 ^ wd := Nat.pow_le_pow_right (by omega) h7
  refine ⟨d.step cl (List.replicate row u), ?_, ?_, ?_, ⟨?_, ?_, ?_, ?_, ?_, ?_, ?_, ?_⟩⟩
  · rw [finC, if_neg (by rw [h1]; omega), t1, if_neg (by omega), if_neg (by omega), hbad, hrow]
    simp only [Bool.false_eq_true, if_false]
    rw [if_neg (by rw [h5, List.length_replicate, List.length_replicate]; omega)]
  · show 8 * n - (d.p + d.wd) < K
    omega
  · show d.p + d.wd = _
    omega
  · show wideC cl d.wd d.rows d.last = wdN wd nx
    unfold wideC wdN
    rw [h4, h1, ← h2]
    simp [hn]
  · show nx + 1 = cl + 2 + (rowsC cl d.rows d.last (List.replicate row u)).length
    unfold rowsC
    rw [if_pos ⟨by rw [h4]; rfl, by omega⟩]
    simp
    omega
  · show row + 1 = (rowsC cl d.rows d.last (List.replicate row u)).length + 2
    unfold rowsC
    rw [if_pos ⟨by rw [h4]; rfl, by omega⟩]
    simp
    omega
  · show some (List.replicate row u) = some (List.replicate (row + 1 - 1) u)
    rfl
  · show d.out ++ List.replicate row u = _
    rw [h5, List.replicate_append_replicate]
  · unfold wdN; split <;> omega
  · unfold wdN; split <;> omega
  · unfold wdN
    split
    · rename_i hc
      exact .inl (by rw [Nat.pow_succ]; omega)
    · rename_i hc
      rcases h8 with h | ⟨h, h9⟩
      · by_cases hw : wd < 12
        · exact .inl (by
            have : nx + 1 ≠ 2 ^ wd := fun e => hc ⟨e, hw⟩
            omega)
        · exact .inr ⟨by omega, by omega⟩
      · exact .inr ⟨h, by omega⟩
theorem run_first (hB : Bs B b n) (hs : 2 ≤ sz) (hs8 : sz ≤ 8) (hcl : cl = 2 ^ sz) (hu : u < cl) (hm : 1 ≤ most) (hpre : cb (sz + 1) [cl, u] <+: B) :
    ∃ K d, finC b n cl sz most (8 * n + 1) (cz0 sz) = finC b n cl sz most K d ∧ 8 * n - d.p < K ∧ d.p = (cb (sz + 1) [cl, u]).length ∧ RunD u sz cl 1 2 (sz + 1) (cl + 2) d := by
  have h4 : 4 ≤ cl := by rw [hcl]; exact Nat.pow_le_pow_right (n := 2) (i := 2) (by omega) hs
  have hpw := pow_two hcl
  have e0 : cb (sz + 1) [cl, u] = numB false ((cl : Nat) : Int) (sz + 1) ++ numB false ((u : Nat) : Int) (sz + 1) := by simp [cb]
  rw [e0] at hpre ⊢
  obtain ⟨g1, g2, g3, g4⟩ := plain_clear (most := most) hB hs hcl (pl0 hs hcl) (pre := []) rfl (by simpa using (List.prefix_append _ _).trans hpre) (8 * n) (by show 8 * n - 0 < _; omega)
  have hp0 : ((cz0 sz).reset sz).p = (numB false ((cl : Nat) : Int) (sz + 1)).length := by rw [g3, numB_len]; simp
  obtain ⟨t1, t2⟩ := rd_code hB hpre (show u < 2 ^ (sz + 1) by rw [hpw]; omega)
  rw [← hp0] at t1 t2
  have hwd : ((cz0 sz).reset sz).wd = sz + 1 := rfl
  rw [← hwd] at t1
  have hK : 0 < 8 * n := by omega
  obtain ⟨K, hK2⟩ : ∃ j, 8 * n = j + 1 := ⟨8 * n - 1, by omega⟩
  refine ⟨K, ((cz0 sz).reset sz).step cl [u], ?_, ?_, ?_, ⟨?_, rfl, rfl, rfl, rfl, by omega, Nat.le_refl _, .inl (by rw [hpw]; omega)⟩⟩
  · have hbad : badC cl ((cz0 sz).reset sz).rows ((cz0 sz).reset sz).last u = false := by unfold badC; simp [hu]
    have hrow : rowC cl ((cz0 sz).reset sz).rows ((cz0 sz).reset sz).last u = [u] := by unfold rowC; rw [if_pos hu]
    rw [g1]
    rw [hK2]
    rw [finC, if_neg (by rw [hwd]; omega), t1, if_neg (by omega), if_neg (by omega), hbad, hrow]
    simp only [Bool.false_eq_true, if_false, List.length_singleton]
    rw [if_neg (by show ¬ most < 0 + 1; omega)]
  · show 8 * n - (((cz0 sz).reset sz).p + (sz + 1)) < K
    rw [hp0, numB_len] at *
    omega
  · show ((cz0 sz).reset sz).p + (sz + 1) = _
    rw [hp0, List.length_append, numB_len, numB_len]
  · show wideC cl (sz + 1) [] none = sz + 1
    unfold wideC
    simp
end
/-- What bits come to, whatever lies behind them. -/
def RnI (u sz cl most : Nat) (bits : List Nat) (at_ row wd nx : Nat) : Prop :=
  ∀ B b n, Bs B b n → bits <+: B → at_ ≤ most → ∃ K d, finC b n cl sz most (8 * n + 1) (cz0 sz) = finC b n cl sz most K d ∧ 8 * n - d.p < K ∧ d.p = bits.length ∧ RunD u sz cl at_ row wd nx d
theorem rnI_first {u sz cl most : Nat} (hs : 2 ≤ sz) (hs8 : sz ≤ 8) (hcl : cl = 2 ^ sz) (hu : u < cl) : RnI u sz cl most (cb (sz + 1) [cl, u]) 1 2 (sz + 1) (cl + 2) :=
  fun B b n hB hpre hm => run_first hB hs hs8 hcl hu hm hpre
theorem RnI.next {u sz cl most : Nat} {bits : List Nat} {at_ row wd nx : Nat} (h : RnI u sz cl most bits at_ row wd nx) (hs : 2 ≤ sz) (hcl : cl = 2 ^ sz) (hn : nx < 4096) : RnI u sz cl most (bits ++ numB false ((nx : Nat) : Int) wd) (at_ + row) (row + 1) (wdN wd nx) (nx + 1) :=
  fun B b n hB hpre hm => by
    obtain ⟨K, d, f1, f2, f3, f4⟩ := h B b n hB ((List.prefix_append _ _).trans hpre) (by omega)
    obtain ⟨K, rfl⟩ : ∃ j, K = j + 1 := ⟨K - 1, by omega⟩
    obtain ⟨d', g1, g2, g3, g4⟩ := run_next (most := most) hB hs hcl f4 hn hm f3 hpre K f2
    exact ⟨K, d', f1.trans g1, g2, by rw [g3, List.length_append, numB_len], g4⟩
theorem RnI.fin {u sz cl most : Nat} {bits : List Nat} {at_ row wd nx : Nat} (h : RnI u sz cl most bits at_ row wd nx) (hs : 2 ≤ sz) (hs8 : sz ≤ 8) (hcl : cl = 2 ^ sz) (hw : sz + 1 ≤ wd) (hat : at_ ≤ most) (h2 : ∀ v ∈ bits, v < 2) :
    lzwV (gz (pack false (bits ++ numB false ((cl + 1 : Nat) : Int) wd)).1) (pack false (bits ++ numB false ((cl + 1 : Nat) : Int) wd)).1.length sz most = (List.replicate at_ u, 0) := by
  rw [lzwV_yes _ _ sz most hs hs8, ← hcl]
  have hBs := bs_pack (bits ++ numB false ((cl + 1 : Nat) : Int) wd) (fun v hv => by
    rcases List.mem_append.1 hv with h | h
    · exact h2 v h
    · exact numB_lt _ _ _ v h)
  obtain ⟨B, hB⟩ : ∃ B, B = bits ++ numB false ((cl + 1 : Nat) : Int) wd := ⟨_, rfl⟩
  rw [← hB] at hBs ⊢
  obtain ⟨K, d, f1, f2, f3, f4⟩ := h B _ _ hBs (by rw [hB]; exact List.prefix_append _ _) hat
  rw [f1]
  obtain ⟨K, rfl⟩ : ∃ j, K = j + 1 := ⟨K - 1, by omega⟩
  obtain ⟨t1, t2⟩ := rd_code hBs (pre := bits) (by rw [hB]; exact List.prefix_refl _) (show cl + 1 < 2 ^ wd by have := pow_cl hs hcl hw; omega)
  rw [← f3] at t1 t2
  have hwd := f4.f1
  rw [← hwd] at t1 t2
  rw [finC, if_neg (by omega), t1, if_neg (by omega), if_pos rfl, f4.f5]
end Go.Proofs.Ytioghgnngdcicaa
