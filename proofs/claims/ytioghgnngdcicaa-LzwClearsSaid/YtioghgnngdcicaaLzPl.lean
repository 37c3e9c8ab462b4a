/- The plainest codes: values as they are, Clears between: the plain law. -/
import Derived.Test.YtioghgnngdcicaaLzD
namespace Go.Proofs.Ytioghgnngdcicaa
set_option linter.unusedVariables false

/-- The bits of codes of so many bits. -/
def cb (wd : Nat) (cs : List Nat) : List Nat := (cs.map fun c => numB false ((c : Nat) : Int) wd).flatten
theorem cb_snoc (wd : Nat) (cs : List Nat) (c : Nat) : cb wd (cs ++ [c]) = cb wd cs ++ numB false ((c : Nat) : Int) wd := by simp [cb]
theorem cb_append (wd : Nat) (cs ds : List Nat) : cb wd (cs ++ ds) = cb wd cs ++ cb wd ds := by simp [cb]
theorem cb_len (wd : Nat) (cs : List Nat) : (cb wd cs).length = cs.length * wd := by
  induction cs with
  | nil => simp [cb]
  | cons c cs ih =>
    have : cb wd (c :: cs) = numB false ((c : Nat) : Int) wd ++ cb wd cs := by simp [cb]
    rw [this, List.length_append, ih, numB_len, List.length_cons, Nat.add_mul]
    omega
theorem cb_lt (wd : Nat) (cs : List Nat) : ∀ v ∈ cb wd cs, v < 2 := by
  intro v hv
  unfold cb at hv
  obtain ⟨m, hm, hv⟩ := List.mem_flatten.1 hv
  obtain ⟨c, _, rfl⟩ := List.mem_map.1 hm
  exact numB_lt _ _ _ v hv
/-- May these codes be read one by one as they are, many values being ahead of them since the last Clear? -/
def PlOk (cl : Nat) : Nat → List Nat → Prop
  | _, [] => True
  | many, c :: cs => (c = cl ∧ PlOk cl 0 cs) ∨ (c < cl ∧ many + 2 < cl ∧ PlOk cl (many + 1) cs)
def plMany (cl : Nat) : Nat → List Nat → Nat
  | many, [] => many
  | many, c :: cs => if c = cl then plMany cl 0 cs else plMany cl (many + 1) cs
theorem PlOk.append {cl : Nat} : ∀ {cs : List Nat} {many : Nat} {ds : List Nat}, PlOk cl many cs → PlOk cl (plMany cl many cs) ds → PlOk cl many (cs ++ ds)
  | [], _, _, _, h => h
  | c :: cs, many, ds, h1, h2 => by
    rcases h1 with ⟨h3, h4⟩ | ⟨h3, h4, h5⟩
    · rw [plMany, if_pos h3] at h2
      exact .inl ⟨h3, h4.append h2⟩
    · rw [plMany, if_neg (by omega)] at h2
      exact .inr ⟨h3, h4, h5.append h2⟩
theorem plMany_append {cl : Nat} : ∀ {cs : List Nat} {many : Nat} {ds : List Nat}, plMany cl many (cs ++ ds) = plMany cl (plMany cl many cs) ds
  | [], _, _ => rfl
  | c :: cs, many, ds => by
    rw [List.cons_append, plMany, plMany]
    split
    · exact plMany_append
    · exact plMany_append
/-- What plain codes say. -/
def plOut (cl : Nat) (cs : List Nat) : List Nat := cs.filter fun c => decide (c < cl)
theorem plOut_append (cl : Nat) (cs ds : List Nat) : plOut cl (cs ++ ds) = plOut cl cs ++ plOut cl ds := by simp [plOut]
/-- Where a reader of plain codes stands. -/
structure PlD (cl sz many : Nat) (d : Cz) : Prop where
  wd : d.wd = sz + 1
  st : (many = 0 ∧ d.last = none ∧ d.rows = []) ∨ (0 < many ∧ d.last.isSome = true ∧ d.rows.length + 1 = many)
  few : many + 2 ≤ cl
section
variable {B : List Nat} {b : Nat → Nat} {n cl sz most : Nat}
theorem pow_two (hcl : cl = 2 ^ sz) : 2 ^ (sz + 1) = 2 * cl := by rw [Nat.pow_succ, hcl]; omega
theorem plain_clear (hB : Bs B b n) (hs : 2 ≤ sz) (hcl : cl = 2 ^ sz) {many : Nat} {d : Cz} (h : PlD cl sz many d) {pre : List Nat} (hp : d.p = pre.length) (hpre : pre ++ numB false ((cl : Nat) : Int) (sz + 1) <+: B) (K : Nat) (hK : 8 * n - d.p < K + 1) :
    finC b n cl sz most (K + 1) d = finC b n cl sz most K (d.reset sz) ∧ 8 * n - (d.reset sz).p < K ∧ (d.reset sz).p = pre.length + (sz + 1) ∧ PlD cl sz 0 (d.reset sz) := by
  have h4 : 4 ≤ cl := by rw [hcl]; exact Nat.pow_le_pow_right (n := 2) (i := 2) (by omega) hs
  obtain ⟨t1, t2⟩ := rd_code hB hpre (show cl < 2 ^ (sz + 1) by rw [pow_two hcl]; omega)
  rw [← hp, ← h.wd] at t1 t2
  have hw := h.wd
  refine ⟨?_, ?_, ?_, ⟨rfl, .inl ⟨rfl, rfl, rfl⟩, by omega⟩⟩
  · rw [finC, if_neg (by omega), t1, if_pos rfl]
  · show 8 * n - (d.p + d.wd) < K
    omega
  · show d.p + d.wd = _
    omega
theorem plain_val (hB : Bs B b n) (hs : 2 ≤ sz) (hs8 : sz ≤ 8) (hcl : cl = 2 ^ sz) {many : Nat} {d : Cz} (h : PlD cl sz many d) {pre : List Nat} (hp : d.p = pre.length) {v : Nat} (hv : v < cl) (hm : many + 2 < cl) (hpre : pre ++ numB false ((v : Nat) : Int) (sz + 1) <+: B) (hmost : d.out.length < most) (K : Nat) (hK : 8 * n - d.p < K + 1) :
    ∃ d', finC b n cl sz most (K + 1) d = finC b n cl sz most K d' ∧ 8 * n - d'.p < K ∧ d'.p = pre.length + (sz + 1) ∧ PlD cl sz (many + 1) d' ∧ d'.out = d.out ++ [v] := by
  have h4 : 4 ≤ cl := by rw [hcl]; exact Nat.pow_le_pow_right (n := 2) (i := 2) (by omega) hs
  have h256 : cl ≤ 256 := by rw [hcl]; exact Nat.pow_le_pow_right (n := 2) (j := 8) (by omega) hs8
  have hpw := pow_two hcl
  obtain ⟨t1, t2⟩ := rd_code hB hpre (show v < 2 ^ (sz + 1) by rw [hpw]; omega)
  rw [← hp, ← h.wd] at t1 t2
  have hw := h.wd
  have hbad : badC cl d.rows d.last v = false := by unfold badC; simp [hv]
  have hrow : rowC cl d.rows d.last v = [v] := by unfold rowC; rw [if_pos hv]
  refine ⟨d.step cl [v], ?_, ?_, ?_, ⟨?_, ?_, by omega⟩, rfl⟩
  · rw [finC, if_neg (by omega), t1, if_neg (by omega), if_neg (by omega), hbad, hrow]
    simp only [Bool.false_eq_true, if_false, List.length_singleton]
    rw [if_neg (by omega)]
  · show 8 * n - (d.p + d.wd) < K
    omega
  · show d.p + d.wd = _
    omega
  · show wideC cl d.wd d.rows d.last = sz + 1
    unfold wideC
    rw [hw]
    rcases h.st with ⟨_, h1, _⟩ | ⟨_, _, h1⟩
    · rw [h1]; simp
    · rw [if_neg (by rw [hpw]; omega)]
  · refine .inr ⟨by omega, rfl, ?_⟩
    show (rowsC cl d.rows d.last [v]).length + 1 = many + 1
    unfold rowsC
    rcases h.st with ⟨h0, h1, h2⟩ | ⟨_, h1, h2⟩
    · rw [h1, h2, h0]; simp
    · have := h.few
      rw [if_pos ⟨h1, by omega⟩]
      simp
      omega
theorem plain_run (hB : Bs B b n) (hs : 2 ≤ sz) (hs8 : sz ≤ 8) (hcl : cl = 2 ^ sz) : ∀ (cs : List Nat) (many : Nat) (d : Cz) (pre : List Nat) (K : Nat), PlD cl sz many d → d.p = pre.length → PlOk cl many cs → pre ++ cb (sz + 1) cs <+: B → d.out.length + (plOut cl cs).length ≤ most → 8 * n - d.p < K →
    ∃ K' d', finC b n cl sz most K d = finC b n cl sz most K' d' ∧ 8 * n - d'.p < K' ∧ d'.p = (pre ++ cb (sz + 1) cs).length ∧ PlD cl sz (plMany cl many cs) d' ∧ d'.out = d.out ++ plOut cl cs := by
  intro cs
  induction cs with
  | nil => intro many d pre K h hp _ _ _ hK; exact ⟨K, d, rfl, hK, by rw [hp]; simp [cb], h, by simp [plOut]⟩
  | cons c cs ih =>
    intro many d pre K h hp hok hpre hm hK
    obtain ⟨K, rfl⟩ : ∃ j, K = j + 1 := ⟨K - 1, by omega⟩
    have hcb : cb (sz + 1) (c :: cs) = numB false ((c : Nat) : Int) (sz + 1) ++ cb (sz + 1) cs := by simp [cb]
    rw [hcb, ← List.append_assoc] at hpre
    have hpre1 : pre ++ numB false ((c : Nat) : Int) (sz + 1) <+: B := (List.prefix_append _ _).trans hpre
    have hl : (pre ++ numB false ((c : Nat) : Int) (sz + 1)).length = pre.length + (sz + 1) := by rw [List.length_append, numB_len]
    rcases hok with ⟨h3, h4⟩ | ⟨h3, h4, h5⟩
    · subst h3
      obtain ⟨g1, g2, g3, g4⟩ := plain_clear (most := most) hB hs hcl h hp hpre1 K hK
      have ho : plOut c (c :: cs) = plOut c cs := by simp [plOut]
      rw [ho] at hm ⊢
      obtain ⟨K', d', f1, f2, f3, f4, f5⟩ := ih 0 (d.reset sz) _ K g4 (by rw [g3, hl]) h4 hpre hm g2
      refine ⟨K', d', g1.trans f1, f2, by rw [f3, hcb, ← List.append_assoc], ?_, f5⟩
      rw [plMany, if_pos rfl]
      exact f4
    · have ho : plOut cl (c :: cs) = c :: plOut cl cs := by simp [plOut, h3]
      rw [ho, List.length_cons] at hm
      obtain ⟨d1, g1, g2, g3, g4, g5⟩ := plain_val (most := most) hB hs hs8 hcl h hp h3 h4 hpre1 (by omega) K hK
      obtain ⟨K', d', f1, f2, f3, f4, f5⟩ := ih (many + 1) d1 _ K g4 (by rw [g3, hl]) h5 hpre (by rw [g5, List.length_append, List.length_singleton]; omega) g2
      refine ⟨K', d', g1.trans f1, f2, by rw [f3, hcb, ← List.append_assoc], ?_, by rw [f5, g5, ho, List.append_assoc]; rfl⟩
      rw [plMany, if_neg (by omega)]
      exact f4
theorem pl0 (hs : 2 ≤ sz) (hcl : cl = 2 ^ sz) : PlD cl sz 0 (cz0 sz) := ⟨rfl, .inl ⟨rfl, rfl, rfl⟩, by have : 4 ≤ cl := by { rw [hcl]; exact Nat.pow_le_pow_right (n := 2) (i := 2) (by omega) hs }; omega⟩
/-- Plain codes and an end are read as they are. -/
theorem plain_all (hs : 2 ≤ sz) (hs8 : sz ≤ 8) (hcl : cl = 2 ^ sz) (cs : List Nat) (hok : PlOk cl 0 cs) (hm : (plOut cl cs).length ≤ most) :
    lzwV (gz (pack false (cb (sz + 1) (cs ++ [cl + 1]))).1) (pack false (cb (sz + 1) (cs ++ [cl + 1]))).1.length sz most = (plOut cl cs, 0) := by
  rw [lzwV_yes _ _ sz most hs hs8, ← hcl]
  have hBs := bs_pack _ (cb_lt (sz + 1) (cs ++ [cl + 1]))
  generalize hB : cb (sz + 1) (cs ++ [cl + 1]) = B at *
  generalize gz (pack false B).1 = b at *
  generalize (pack false B).1.length = n at *
  rw [cb_snoc] at hB
  have hpre : cb (sz + 1) cs <+: B := by rw [← hB]; exact List.prefix_append _ _
  obtain ⟨K, d, f1, f2, f3, f4, f5⟩ := plain_run (most := most) hBs hs hs8 hcl cs 0 (cz0 sz) [] (8 * n + 1) (pl0 hs hcl) rfl hok (by simpa using hpre) (by simpa [cz0] using hm) (by show 8 * n - 0 < _; omega)
  rw [f1]
  obtain ⟨K, rfl⟩ : ∃ j, K = j + 1 := ⟨K - 1, by omega⟩
  have h4 : 4 ≤ cl := by rw [hcl]; exact Nat.pow_le_pow_right (n := 2) (i := 2) (by omega) hs
  obtain ⟨t1, t2⟩ := rd_code hBs (pre := cb (sz + 1) cs) (by rw [hB]; exact List.prefix_refl _) (show cl + 1 < 2 ^ (sz + 1) by rw [pow_two hcl]; omega)
  have hp : d.p = (cb (sz + 1) cs).length := by simpa using f3
  rw [← hp, ← f4.wd] at t1 t2
  rw [finC, if_neg (by omega), t1, if_neg (by omega), if_pos rfl, f5]
  simp [cz0]
/-- Behind a Clear a code that is no value may not be. -/
theorem plain_bad (hs : 2 ≤ sz) (hs8 : sz ≤ 8) (hcl : cl = 2 ^ sz) (cs : List Nat) (hok : PlOk cl 0 cs) (hm : (plOut cl cs).length ≤ most) :
    lzwV (gz (pack false (cb (sz + 1) (cs ++ [cl] ++ [cl + 2]))).1) (pack false (cb (sz + 1) (cs ++ [cl] ++ [cl + 2]))).1.length sz most = ([], 4) := by
  rw [lzwV_yes _ _ sz most hs hs8, ← hcl]
  have hBs := bs_pack _ (cb_lt (sz + 1) (cs ++ [cl] ++ [cl + 2]))
  generalize hB : cb (sz + 1) (cs ++ [cl] ++ [cl + 2]) = B at *
  generalize gz (pack false B).1 = b at *
  generalize (pack false B).1.length = n at *
  rw [cb_snoc] at hB
  have hpre : cb (sz + 1) (cs ++ [cl]) <+: B := by rw [← hB]; exact List.prefix_append _ _
  have hok2 : PlOk cl 0 (cs ++ [cl]) := hok.append (.inl ⟨rfl, trivial⟩)
  have hmz : plMany cl 0 (cs ++ [cl]) = 0 := by rw [plMany_append, plMany, if_pos rfl, plMany]
  have hmo : plOut cl (cs ++ [cl]) = plOut cl cs := by rw [plOut_append]; simp [plOut]
  obtain ⟨K, d, f1, f2, f3, f4, f5⟩ := plain_run (most := most) hBs hs hs8 hcl (cs ++ [cl]) 0 (cz0 sz) [] (8 * n + 1) (pl0 hs hcl) rfl hok2 (by simpa using hpre) (by rw [hmo]; simpa [cz0] using hm) (by show 8 * n - 0 < _; omega)
  rw [f1]
  rw [hmz] at f4
  obtain ⟨K, rfl⟩ : ∃ j, K = j + 1 := ⟨K - 1, by omega⟩
  have h4 : 4 ≤ cl := by rw [hcl]; exact Nat.pow_le_pow_right (n := 2) (i := 2) (by omega) hs
  obtain ⟨t1, t2⟩ := rd_code hBs (pre := cb (sz + 1) (cs ++ [cl])) (by rw [hB]; exact List.prefix_refl _) (show cl + 2 < 2 ^ (sz + 1) by rw [pow_two hcl]; omega)
  have hp : d.p = (cb (sz + 1) (cs ++ [cl])).length := by simpa using f3
  rw [← hp, ← f4.wd] at t1 t2
  have hl : d.last = none := by
    rcases f4.st with ⟨_, h, _⟩ | ⟨h, _⟩
    · exact h
    · omega
  have hbad : badC cl d.rows d.last (cl + 2) = true := by unfold badC; rw [hl]; simp
  rw [finC, if_neg (by omega), t1, if_neg (by omega), if_neg (by omega), hbad]
  rfl
/-- The plainest codes of values: a Clear ahead, and one behind each cl - 2 values. -/
def stC (cl : Nat) (s : Nat × List Nat) (v : Nat) : Nat × List Nat := if s.1 = cl - 2 then (1, s.2 ++ [cl] ++ [v]) else (s.1 + 1, s.2 ++ [v])
def plC (cl : Nat) (l : List Nat) : Nat × List Nat := l.foldl (stC cl) (0, [cl])
theorem plC_snoc (cl : Nat) (l : List Nat) (v : Nat) : plC cl (l ++ [v]) = stC cl (plC cl l) v := by simp [plC]
theorem plC_ok (h4 : 4 ≤ cl) (l : List Nat) (hl : ∀ v ∈ l, v < cl) : PlOk cl 0 (plC cl l).2 ∧ plMany cl 0 (plC cl l).2 = (plC cl l).1 ∧ (plC cl l).1 + 2 ≤ cl ∧ plOut cl (plC cl l).2 = l ∧ (plC cl l).2.length ≤ 2 * l.length + 1 := by
  have key : ∀ j, j ≤ l.length → PlOk cl 0 (plC cl (l.take j)).2 ∧ plMany cl 0 (plC cl (l.take j)).2 = (plC cl (l.take j)).1 ∧ (plC cl (l.take j)).1 + 2 ≤ cl ∧ plOut cl (plC cl (l.take j)).2 = l.take j ∧ (plC cl (l.take j)).2.length ≤ 2 * j + 1 := by
    intro j
    induction j with
    | zero =>
      intro _
      rw [List.take_zero]
      exact ⟨.inl ⟨rfl, trivial⟩, by simp [plC, plMany], by simp [plC]; omega, by simp [plC, plOut], by simp [plC]⟩
    | succ j ih =>
      intro hj
      obtain ⟨g1, g2, g3, g4, g5⟩ := ih (by omega)
      have hget : l[j]? = some l[j] := List.getElem?_eq_getElem (by omega)
      have htk : l.take (j + 1) = l.take j ++ [l[j]] := by rw [List.take_add_one, hget]; rfl
      have hv : l[j] < cl := hl _ (List.getElem_mem _)
      rw [htk, plC_snoc]
      generalize plC cl (l.take j) = q at *
      obtain ⟨m, cs⟩ := q
      dsimp only at *
      have hov : plOut cl [l[j]] = [l[j]] := by simp [plOut, hv]
      unfold stC
      dsimp only
      by_cases hm : m = cl - 2
      · rw [if_pos hm]
        have hoc : plOut cl [cl] = [] := by simp [plOut]
        have m1 : plMany cl 0 (cs ++ [cl]) = 0 := by rw [plMany_append, plMany, if_pos rfl, plMany]
        have o1 : PlOk cl 0 (cs ++ [cl]) := g1.append (.inl ⟨rfl, trivial⟩)
        refine ⟨o1.append (.inr ⟨hv, by omega, trivial⟩), ?_, by dsimp only; omega, ?_, ?_⟩
        · rw [plMany_append, m1, plMany, if_neg (by omega), plMany]
        · rw [plOut_append, plOut_append, g4, hoc, hov]; simp
        · simp; omega
      · rw [if_neg hm]
        refine ⟨g1.append (.inr ⟨hv, by omega, trivial⟩), ?_, by dsimp only; omega, ?_, ?_⟩
        · rw [plMany_append, g2, plMany, if_neg (by omega), plMany]
        · rw [plOut_append, g4, hov]
        · simp; omega
  have := key l.length (Nat.le_refl _)
  rwa [List.take_length] at this
end
end Go.Proofs.Ytioghgnngdcicaa
