/- What a writer of GIF's codes writes is read again: the plain law. -/
import Derived.Test.YtioghgnngdcicaaLzA
namespace Go.Proofs.Ytioghgnngdcicaa
set_option linter.unusedVariables false

/-- The bits that bytes hold. -/
structure Bs (B : List Nat) (b : Nat → Nat) (n : Nat) : Prop where
  bit : ∀ k (h : k < B.length), bitL b k = B[k]
  len : B.length ≤ 8 * n
theorem bs_pack (B : List Nat) (hB : ∀ v ∈ B, v < 2) : Bs B (gz (pack false B).1) (pack false B).1.length := by
  refine ⟨fun k h => ?_, by rw [pack_len]; omega⟩
  have h1 := pack_get false B hB k h
  have h2 : ∀ (f : Nat → Nat), bitB false f k = bitL f k := fun f => by simp [bitB]
  rw [h2] at h1
  exact h1
theorem rd_code {B : List Nat} {b : Nat → Nat} {n c wd : Nat} {pre : List Nat} (h : Bs B b n) (hp : pre ++ numB false (c : Nat) wd <+: B) (hc : c < 2 ^ wd) : takeL b pre.length wd = c ∧ pre.length + wd ≤ 8 * n := by
  obtain ⟨post, hB⟩ := hp
  have hl : pre.length + wd + post.length = B.length := by rw [← hB]; simp [numB_len]; omega
  have hbl := h.len
  refine ⟨?_, by omega⟩
  have h1 := takeL_num b pre.length (c : Nat) wd (fun i hi => by
    have h2 := h.bit (pre.length + i) (by omega)
    rw [h2]
    have h3 : B[pre.length + i]? = some (bitX (c : Nat) i) := by
      rw [← hB, List.append_assoc, List.getElem?_append_right (by omega), Nat.add_sub_cancel_left, List.getElem?_append_left (by rw [numB_len]; exact hi), numB_get false _ _ _ hi]
      simp
    have h4 := List.getElem?_eq_getElem (l := B) (i := pre.length + i) (by omega)
    rw [h4] at h3
    injection h3)
  have h5 : ((c : Nat) : Int) % 2 ^ wd = (c : Nat) := Int.emod_eq_of_lt (by omega) (by
    have : ((2 ^ wd : Nat) : Int) = (2 : Int) ^ wd := by simp
    rw [← this]
    omega)
  rw [h5] at h1
  omega
theorem rowOf_ne {cl : Nat} {RF : List (List Nat)} {k : Nat} {S : List Nat} (h : rowOf cl RF k = some S) : k ≠ cl ∧ k ≠ cl + 1 ∧ k < cl + 2 + RF.length := by
  unfold rowOf at h
  by_cases h1 : k < cl
  · exact ⟨by omega, by omega, by omega⟩
  · rw [if_neg h1] at h
    by_cases h2 : k < cl + 2
    · rw [if_pos h2] at h; cases h
    · rw [if_neg h2] at h
      have := (List.getElem?_eq_some_iff.1 h).1
      omega
/-- Where a reader stands that has read what a writer wrote. -/
structure InvD (cl sz : Nat) (q : Ez × Option Nat) (l : List Nat) (d : Cz) (RF : List (List Nat)) : Prop where
  p : d.p = q.1.bits.length
  wd : d.wd = q.1.wd
  nx : q.1.nx = cl + 2 + d.rows.length
  w1 : q.1.wd ≤ 12
  w2 : sz + 1 ≤ q.1.wd
  w3 : q.1.nx < 2 ^ q.1.wd ∨ (q.1.wd = 12 ∧ q.1.nx ≤ 4096)
  tab : TabOk cl RF q.1.tab
  full : cl + 2 + RF.length ≤ 4096
  st : (q.1.first = true ∧ RF = [] ∧ d.rows = [] ∧ d.last = none) ∨ (q.1.first = false ∧ ∃ l0 v, d.last = some l0 ∧ l0 ≠ [] ∧ RF = d.rows ++ [l0 ++ [v]] ∧ cl + 2 + d.rows.length < 4096 ∧ ∀ k S, q.2 = some k → rowOf cl RF k = some S → S.headD 0 = v)
  now0 : q.2 = none → l = [] ∧ d.out = [] ∧ q.1.first = true
  now1 : ∀ k, q.2 = some k → ∃ S, rowOf cl RF k = some S ∧ S ≠ [] ∧ d.out ++ S = l
/-- What put leaves. -/
structure PutD (cl sz : Nat) (s : Ez) (k : Nat) (l : List Nat) (d : Cz) (RF : List (List Nat)) (S : List Nat) : Prop where
  p : d.p = (s.put k).bits.length
  wd : d.wd = (s.put k).wd
  nx : (s.put k).nx = cl + 2 + d.rows.length
  w1 : (s.put k).wd ≤ 12
  w2 : sz + 1 ≤ (s.put k).wd
  w3 : (s.put k).nx < 2 ^ (s.put k).wd ∨ ((s.put k).wd = 12 ∧ (s.put k).nx ≤ 4096)
  rows : d.rows = RF
  last : d.last = some S
  out : d.out = l
theorem grow_w3 {wd nx : Nat} (h1 : wd ≤ 12) (h3 : nx < 2 ^ wd ∨ (wd = 12 ∧ nx ≤ 4096)) : growB wd nx ≤ 12 ∧ wd ≤ growB wd nx ∧ (growN nx < 2 ^ growB wd nx ∨ (growB wd nx = 12 ∧ growN nx ≤ 4096)) := by
  have hp : 2 ^ (wd + 1) = 2 * 2 ^ wd := by rw [Nat.pow_succ]; omega
  have hp1 : 1 ≤ 2 ^ wd := Nat.one_le_two_pow
  unfold growB growN
  by_cases h : nx < 4096 ∧ nx + 1 = 2 ^ wd ∧ wd < 12
  · rw [if_pos h, if_pos h.1]
    refine ⟨by omega, by omega, .inl (by rw [hp]; omega)⟩
  · rw [if_neg h]
    refine ⟨h1, Nat.le_refl _, ?_⟩
    by_cases hn : nx < 4096
    · rw [if_pos hn]
      rcases h3 with h3 | ⟨h3, h4⟩
      · by_cases h9 : nx + 1 = 2 ^ wd
        · refine .inr ⟨by omega, by omega⟩
        · exact .inl (by omega)
      · exact .inr ⟨h3, by omega⟩
    · rw [if_neg hn]
      exact h3
theorem put_dec {B : List Nat} {b : Nat → Nat} {n cl sz most : Nat} (hB : Bs B b n) (hs : 2 ≤ sz) (hcl : cl = 2 ^ sz) {s : Ez} {k : Nat} {l : List Nat} {d : Cz} {RF : List (List Nat)} (h : InvD cl sz (s, some k) l d RF) (hpre : (s.put k).bits <+: B) (hl : l.length ≤ most) (K : Nat) (hK : 8 * n - d.p < K + 1) :
    ∃ d' S, finC b n cl sz most (K + 1) d = finC b n cl sz most K d' ∧ 8 * n - d'.p < K ∧ PutD cl sz s k l d' RF S ∧ rowOf cl RF k = some S ∧ S ≠ [] := by
  obtain ⟨S, hS, hSne, hout⟩ := h.now1 k rfl
  have hp : d.p = s.bits.length := h.p
  have hwd : d.wd = s.wd := h.wd
  have hnx : s.nx = cl + 2 + d.rows.length := h.nx
  have w1 : s.wd ≤ 12 := h.w1
  have w2 : sz + 1 ≤ s.wd := h.w2
  have w3 : s.nx < 2 ^ s.wd ∨ (s.wd = 12 ∧ s.nx ≤ 4096) := h.w3
  obtain ⟨e1, e2, e3⟩ := rowOf_ne hS
  have hfull := h.full
  have hk : k ≤ s.nx := by
    rcases h.st with ⟨_, hr, hd, _⟩ | ⟨_, l0, v, _, _, hr, _, _⟩
    · rw [hr] at e3
      simp at e3
      omega
    · rw [hr] at e3
      simp at e3
      omega
  have hk2 : k < 2 ^ s.wd := by
    rcases w3 with h9 | ⟨h9, h10⟩
    · omega
    · rw [h9]
      have : (2 : Nat) ^ 12 = 4096 := rfl
      omega
  obtain ⟨t1, t2⟩ := rd_code hB hpre hk2
  rw [← hp, ← hwd] at t1 t2
  have hbad : badC cl d.rows d.last k = false := by
    unfold badC
    rcases h.st with ⟨_, hr, hd, hla⟩ | ⟨_, l0, v, hla, _, hr, _, _⟩
    · rw [hr] at e3
      simp at e3
      have : k < cl := by omega
      simp [this]
    · rw [hla]
      simp
      intro _
      omega
  have hrow : rowC cl d.rows d.last k = S := by
    have hS' := hS
    unfold rowOf at hS'
    unfold rowC
    by_cases h1 : k < cl
    · rw [if_pos h1] at hS' ⊢
      injection hS'
    · rw [if_neg h1] at hS' ⊢
      rw [if_neg (by omega)] at hS'
      rcases h.st with ⟨_, hr, hd, hla⟩ | ⟨_, l0, v, hla, hl0, hr, _, hhd⟩
      · rw [hr] at hS'
        simp at hS'
      · rw [hr] at hS'
        by_cases h2 : k = cl + 2 + d.rows.length
        · rw [if_pos h2, hla]
          rw [List.getElem?_append_right (by omega), show k - cl - 2 - d.rows.length = 0 by omega] at hS'
          simp at hS'
          have hv := hhd k S rfl hS
          rw [← hS'] at hv ⊢
          simp only [Option.getD_some]
          congr 2
          cases l0 with
          | nil => exact absurd rfl hl0
          | cons a r => simpa using hv
        · rw [if_neg h2]
          rw [List.getElem?_append_left (by omega)] at hS'
          rw [hS']
          rfl
  have hlen : ¬ most < d.out.length + S.length := by
    have := congrArg List.length hout
    rw [List.length_append] at this
    omega
  refine ⟨d.step cl S, S, ?_, ?_, ⟨?_, ?_, ?_, ?_, ?_, ?_, ?_, rfl, hout⟩, hS, hSne⟩
  · rw [finC, if_neg (by omega), t1, if_neg e1, if_neg e2, hbad, hrow]
    simp only [Bool.false_eq_true, if_false]
    rw [if_neg hlen]
  · show 8 * n - (d.p + d.wd) < K
    omega
  · show d.p + d.wd = (s.bits ++ numB false (k : Nat) s.wd).length
    rw [List.length_append, numB_len, hp, hwd]
  · show wideC cl d.wd d.rows d.last = if s.first = true then s.wd else growB s.wd s.nx
    rcases h.st with ⟨hf, _, _, hla⟩ | ⟨hf, l0, v, hla, _⟩
    · have hf' : s.first = true := hf
      rw [hf', if_pos rfl, hla, hwd]
      unfold wideC
      simp
    · have hf' : s.first = false := hf
      rw [hf', hla, hnx, growB_eq cl s.wd d.rows l0, hwd]
      simp
  · show (if s.first = true then s.nx else growN s.nx) = cl + 2 + (rowsC cl d.rows d.last S).length
    rcases h.st with ⟨hf, _, hd, hla⟩ | ⟨hf, l0, v, hla, _⟩
    · have hf' : s.first = true := hf
      rw [hf', if_pos rfl, hnx, hla]
      unfold rowsC
      simp
    · have hf' : s.first = false := hf
      rw [hf', hla, hnx, growN_eq cl d.rows l0 S]
      simp
  · show (if s.first = true then s.wd else growB s.wd s.nx) ≤ 12
    split
    · exact w1
    · exact (grow_w3 w1 w3).1
  · show sz + 1 ≤ (if s.first = true then s.wd else growB s.wd s.nx)
    split
    · exact w2
    · exact Nat.le_trans w2 (grow_w3 w1 w3).2.1
  · show (if s.first = true then s.nx else growN s.nx) < 2 ^ (if s.first = true then s.wd else growB s.wd s.nx) ∨ _
    cases hf : s.first with
    | true => 
      simp only [Ez.put, hf, if_true]
      exact w3
    | false => 
      simp only [Ez.put, hf, Bool.false_eq_true, if_false]
      exact (grow_w3 w1 w3).2.2
  · show rowsC cl d.rows d.last S = RF
    rcases h.st with ⟨_, hr, hd, hla⟩ | ⟨_, l0, v, hla, _, hr, hfl, hhd⟩
    · rw [hla, hd, hr]
      unfold rowsC
      simp
    · rw [hla, hr]
      unfold rowsC
      rw [if_pos ⟨rfl, hfl⟩, hhd k S rfl hS]
      rfl
theorem pow_cl {cl sz wd : Nat} (hs : 2 ≤ sz) (hcl : cl = 2 ^ sz) (hw : sz + 1 ≤ wd) : cl + 2 < 2 ^ wd := by
  have h1 : 2 ^ (sz + 1) ≤ 2 ^ wd := Nat.pow_le_pow_right (by omega) hw
  have h2 : 2 ^ 2 ≤ 2 ^ sz := Nat.pow_le_pow_right (by omega) hs
  have h3 : 2 ^ (sz + 1) = 2 ^ sz * 2 := Nat.pow_succ ..
  omega
/-- A Clear is read. -/
theorem clear_dec {B : List Nat} {b : Nat → Nat} {n cl sz most : Nat} (hB : Bs B b n) (hs : 2 ≤ sz) (hcl : cl = 2 ^ sz) {s : Ez} {d : Cz} (hp : d.p = s.bits.length) (hwd : d.wd = s.wd) (hw : sz + 1 ≤ s.wd) (hpre : (s.clear cl sz).bits <+: B) (K : Nat) (hK : 8 * n - d.p < K + 1) :
    finC b n cl sz most (K + 1) d = finC b n cl sz most K (d.reset sz) ∧ 8 * n - (d.reset sz).p < K ∧ (d.reset sz).p = (s.clear cl sz).bits.length := by
  have hlt := pow_cl hs hcl hw
  obtain ⟨t1, t2⟩ := rd_code hB hpre (show cl < 2 ^ s.wd by omega)
  rw [← hp, ← hwd] at t1 t2
  refine ⟨?_, ?_, ?_⟩
  · rw [finC, if_neg (by omega), t1, if_pos rfl]
  · show 8 * n - (d.p + d.wd) < K
    omega
  · show d.p + d.wd = (s.bits ++ numB false (cl : Nat) s.wd).length
    rw [List.length_append, numB_len, hp, hwd]
theorem step_dec {B : List Nat} {b : Nat → Nat} {n cl sz most : Nat} (hB : Bs B b n) (hs : 2 ≤ sz) (hs8 : sz ≤ 8) (hcl : cl = 2 ^ sz) {q : Ez × Option Nat} {v : Nat} {l : List Nat} {d : Cz} {RF : List (List Nat)} (h : InvD cl sz q l d RF) (hv : v < cl) (hpre : (stepE cl sz q v).1.bits <+: B) (hl : l.length ≤ most) (K : Nat) (hK : 8 * n - d.p < K) :
    ∃ K' d' RF', finC b n cl sz most K d = finC b n cl sz most K' d' ∧ 8 * n - d'.p < K' ∧ InvD cl sz (stepE cl sz q v) (l ++ [v]) d' RF' := by
  obtain ⟨s, now⟩ := q
  have hc256 : cl ≤ 256 := by rw [hcl]; exact Nat.pow_le_pow_right (n := 2) (j := 8) (by omega) hs8
  cases now with
  | none =>
    obtain ⟨z1, z2, z3⟩ := h.now0 rfl
    have z3' : s.first = true := z3
    refine ⟨K, d, RF, rfl, hK, ⟨h.p, h.wd, h.nx, h.w1, h.w2, h.w3, h.tab, h.full, ?_, (fun e => by cases e), fun k hk => ?_⟩⟩
    · rcases h.st with h9 | ⟨hf, _⟩
      · exact .inl h9
      · have hf' : s.first = false := hf
        rw [hf'] at z3'
        cases z3'
    · injection hk with hk
      subst hk
      exact ⟨[v], by unfold rowOf; rw [if_pos hv], by simp, by rw [z1, z2]⟩
  | some k =>
    obtain ⟨S, hS, hSne, hout⟩ := h.now1 k rfl
    unfold stepE at hpre ⊢
    dsimp only at hpre ⊢
    by_cases hm : (k, v) ∈ s.tab
    · rw [if_pos hm] at hpre ⊢
      have hidx := List.idxOf_lt_length_of_mem hm
      have hget : s.tab[s.tab.idxOf (k, v)]? = some (k, v) := by
        rw [List.getElem?_eq_getElem hidx]
        simp
      generalize s.tab.idxOf (k, v) = i at *
      have htl : s.tab.length = RF.length := h.tab.len
      obtain ⟨r, hr⟩ : ∃ r, RF[i]? = some r := ⟨_, List.getElem?_eq_getElem (by omega)⟩
      obtain ⟨a, v', pre, g1, g2, g3, g4, g5⟩ := h.tab.row i r hr
      have g1' : s.tab[i]? = some (a, v') := g1
      rw [hget] at g1'
      injection g1' with g1'
      injection g1' with ga gv
      subst ga gv
      rw [hS] at g4
      injection g4 with g4
      subst g4
      have hro : rowOf cl RF (cl + 2 + i) = some (S ++ [v]) := by
        unfold rowOf
        rw [if_neg (by omega), if_neg (by omega), show cl + 2 + i - cl - 2 = i by omega, hr, g5]
      refine ⟨K, d, RF, rfl, hK, ⟨h.p, h.wd, h.nx, h.w1, h.w2, h.w3, h.tab, h.full, ?_, (fun e => by cases e), fun k' hk => ?_⟩⟩
      · rcases h.st with h9 | ⟨hf, l0, v0, f1, f2, f3, f4, f5⟩
        · exact .inl h9
        · refine .inr ⟨hf, l0, v0, f1, f2, f3, f4, fun k' S' hk' hS' => ?_⟩
          injection hk' with hk'
          subst hk'
          rw [hro] at hS'
          injection hS' with hS'
          subst hS'
          have := f5 k S rfl hS
          cases S with
          | nil => exact absurd rfl hSne
          | cons y r => simpa using this
      · injection hk with hk
        subst hk
        exact ⟨S ++ [v], hro, by simp, by rw [← hout, List.append_assoc]⟩
    · rw [if_neg hm] at hpre ⊢
      obtain ⟨K, rfl⟩ : ∃ j, K = j + 1 := ⟨K - 1, by omega⟩
      have hppre : (s.put k).bits <+: B := by
        refine List.IsPrefix.trans ?_ hpre
        unfold Ez.add
        split
        · exact List.prefix_refl _
        · exact List.prefix_append _ _
      obtain ⟨d1, S1, hf1, hk1, hP, hS1, hS1ne⟩ := put_dec hB hs hcl h hppre hl K hK
      rw [hS] at hS1
      injection hS1 with hS1
      subst hS1
      obtain ⟨e1, e2, e3⟩ := rowOf_ne hS
      have htl : s.tab.length = RF.length := h.tab.len
      unfold Ez.add at hpre ⊢
      by_cases hfull : cl + 2 + s.tab.length < 4096
      · rw [if_pos hfull] at hpre ⊢
        refine ⟨K, d1, RF ++ [S ++ [v]], hf1, hk1, ⟨hP.p, hP.wd, hP.nx, hP.w1, hP.w2, hP.w3, h.tab.snoc e3 hS (by omega), by simp; omega, .inr ⟨rfl, S, v, hP.last, hSne, by rw [hP.rows], by rw [hP.rows]; omega, fun k' S' hk' hS' => ?_⟩, (fun e => by cases e), fun k' hk' => ?_⟩⟩
        · injection hk' with hk'
          subst hk'
          unfold rowOf at hS'
          rw [if_pos hv] at hS'
          injection hS' with hS'
          subst hS'
          rfl
        · injection hk' with hk'
          subst hk'
          exact ⟨[v], by unfold rowOf; rw [if_pos hv], by simp, by rw [hP.out]⟩
      · rw [if_neg hfull] at hpre ⊢
        obtain ⟨K, rfl⟩ : ∃ j, K = j + 1 := ⟨K - 1, by omega⟩
        obtain ⟨g1, g2, g3⟩ := clear_dec (most := most) hB hs hcl hP.p hP.wd hP.w2 hpre K hk1
        have hlt := pow_cl hs hcl (Nat.le_refl (sz + 1))
        refine ⟨K, d1.reset sz, [], hf1.trans g1, g2, ⟨g3, rfl, rfl, by show sz + 1 ≤ 12; omega, Nat.le_refl _, .inl hlt, ⟨rfl, fun i r hi => by simp at hi⟩, by simp; omega, .inl ⟨rfl, rfl, rfl, rfl⟩, (fun e => by cases e), fun k' hk' => ?_⟩⟩
        injection hk' with hk'
        subst hk'
        exact ⟨[v], by unfold rowOf; rw [if_pos hv], by simp, by show d1.out ++ [v] = _; rw [hP.out]⟩
theorem bits_step (cl sz : Nat) (q : Ez × Option Nat) (v : Nat) : q.1.bits <+: (stepE cl sz q v).1.bits := by
  obtain ⟨s, now⟩ := q
  unfold stepE
  cases now with
  | none => exact List.prefix_refl _
  | some k =>
    dsimp only
    split
    · exact List.prefix_refl _
    · unfold Ez.add
      split
      · exact List.prefix_append _ _
      · exact (List.prefix_append _ _).trans (List.prefix_append _ _)
theorem bits_run (cl sz : Nat) (m : List Nat) : ∀ q : Ez × Option Nat, q.1.bits <+: (m.foldl (stepE cl sz) q).1.bits := by
  induction m with
  | nil => exact fun q => List.prefix_refl _
  | cons a m ih => exact fun q => (bits_step cl sz q a).trans (ih _)
theorem bits_end (cl : Nat) (q : Ez × Option Nat) : q.1.bits <+: endE cl q := by
  obtain ⟨s, now⟩ := q
  cases now with
  | none => exact List.prefix_append _ _
  | some k => exact (List.prefix_append _ _).trans (List.prefix_append _ _)
theorem bits_lt2 (sz : Nat) (l : List Nat) : ∀ v ∈ endE (2 ^ sz) (runE (2 ^ sz) sz l), v < 2 := by
  have key : ∀ q : Ez × Option Nat, (∀ v ∈ q.1.bits, v < 2) → ∀ v ∈ endE (2 ^ sz) q, v < 2 := by
    rintro ⟨s, now⟩ hq v hv
    cases now with
    | none =>
      rcases List.mem_append.1 hv with h | h
      · exact hq v h
      · exact numB_lt _ _ _ v h
    | some k =>
      rcases List.mem_append.1 hv with h | h
      · rcases List.mem_append.1 h with h | h
        · exact hq v h
        · exact numB_lt _ _ _ v h
      · exact numB_lt _ _ _ v h
  have step : ∀ (q : Ez × Option Nat) (x : Nat), (∀ v ∈ q.1.bits, v < 2) → ∀ v ∈ (stepE (2 ^ sz) sz q x).1.bits, v < 2 := by
    rintro ⟨s, now⟩ x hq v hv
    unfold stepE at hv
    cases now with
    | none => exact hq v hv
    | some k =>
      dsimp only at hv
      split at hv
      · exact hq v hv
      · unfold Ez.add at hv
        split at hv
        · rcases List.mem_append.1 hv with h | h
          · exact hq v h
          · exact numB_lt _ _ _ v h
        · rcases List.mem_append.1 hv with h | h
          · rcases List.mem_append.1 h with h | h
            · exact hq v h
            · exact numB_lt _ _ _ v h
          · exact numB_lt _ _ _ v h
  have run : ∀ (m : List Nat) (q : Ez × Option Nat), (∀ v ∈ q.1.bits, v < 2) → ∀ v ∈ (m.foldl (stepE (2 ^ sz) sz) q).1.bits, v < 2 := by
    intro m
    induction m with
    | nil => intro q hq; exact hq
    | cons a m ih => intro q hq; exact ih _ (step q a hq)
  refine key _ (run l _ (fun v hv => ?_))
  have hv' : v ∈ ([] : List Nat) ++ numB false ((2 ^ sz : Nat) : Int) (sz + 1) := hv
  rw [List.nil_append] at hv'
  exact numB_lt _ _ _ v hv'
/-- What was written is read. -/
theorem back_E (sz : Nat) (h1 : 2 ≤ sz) (h2 : sz ≤ 8) (l : List Nat) (hl : ∀ v ∈ l, v < 2 ^ sz) (most : Nat) (hm : l.length ≤ most) : lzwV (gz (lzwE sz l)) (lzwE sz l).length sz most = (l, 0) := by
  obtain ⟨cl, hcl⟩ : ∃ cl, cl = 2 ^ sz := ⟨_, rfl⟩
  rw [lzwV_yes _ _ sz most h1 h2]
  have hlt2 := bits_lt2 sz l
  unfold lzwE
  rw [← hcl] at hl hlt2 ⊢
  have hBs := bs_pack _ hlt2
  have hpreR := bits_end cl (runE cl sz l)
  generalize hB : endE cl (runE cl sz l) = B at *
  generalize gz (pack false B).1 = b at *
  generalize (pack false B).1.length = n at *
  have hlt := pow_cl h1 hcl (Nat.le_refl (sz + 1))
  have hc256 : cl ≤ 256 := by rw [hcl]; exact Nat.pow_le_pow_right (n := 2) (j := 8) (by omega) h2
  have key : ∀ j, j ≤ l.length → ∃ K d RF, finC b n cl sz most (8 * n + 1) (cz0 sz) = finC b n cl sz most K d ∧ 8 * n - d.p < K ∧ InvD cl sz (runE cl sz (l.take j)) (l.take j) d RF := by
    intro j
    induction j with
    | zero =>
      intro _
      have hpre0 : (Ez.clear ⟨[], sz + 1, cl + 2, [], true⟩ cl sz).bits <+: B := (bits_run cl sz l (ez0 cl sz, none)).trans hpreR
      obtain ⟨g1, g2, g3⟩ := clear_dec (most := most) hBs h1 hcl (s := ⟨[], sz + 1, cl + 2, [], true⟩) (d := cz0 sz) rfl rfl (Nat.le_refl _) hpre0 (8 * n) (by show 8 * n - 0 < _; omega)
      rw [List.take_zero]
      exact ⟨8 * n, (cz0 sz).reset sz, [], g1, g2, ⟨g3, rfl, rfl, by show sz + 1 ≤ 12; omega, Nat.le_refl _, .inl hlt, ⟨rfl, fun i r hi => by simp at hi⟩, by simp; omega, .inl ⟨rfl, rfl, rfl, rfl⟩, (fun _ => ⟨rfl, rfl, rfl⟩), (fun k e => by cases e)⟩⟩
    | succ j ih =>
      intro hj
      obtain ⟨K, d, RF, f1, f2, f3⟩ := ih (by omega)
      have hget : l[j]? = some l[j] := List.getElem?_eq_getElem (by omega)
      have htk : l.take (j + 1) = l.take j ++ [l[j]] := by rw [List.take_add_one, hget]; rfl
      have hpre1 : (stepE cl sz (runE cl sz (l.take j)) l[j]).1.bits <+: B := by
        rw [← runE_snoc, ← htk]
        refine List.IsPrefix.trans ?_ hpreR
        have : runE cl sz l = (l.drop (j + 1)).foldl (stepE cl sz) (runE cl sz (l.take (j + 1))) := by
          unfold runE
          rw [← List.foldl_append, List.take_append_drop]
        rw [this]
        exact bits_run cl sz _ _
      obtain ⟨K', d', RF', g1, g2, g3⟩ := step_dec (most := most) hBs h1 h2 hcl f3 (hl _ (List.getElem_mem _)) hpre1 (by rw [List.length_take]; omega) K f2
      rw [htk, runE_snoc]
      exact ⟨K', d', RF', f1.trans g1, g2, g3⟩
  have hkey := key l.length (Nat.le_refl _)
  rw [List.take_length] at hkey
  obtain ⟨K, d, RF, f1, f2, f3⟩ := hkey
  rw [f1]
  obtain ⟨K, rfl⟩ : ∃ j, K = j + 1 := ⟨K - 1, by omega⟩
  generalize hq : runE cl sz l = q at *
  obtain ⟨s, now⟩ := q
  have fin : ∀ (s' : Ez) (d' : Cz) (K : Nat), d'.p = s'.bits.length → d'.wd = s'.wd → sz + 1 ≤ s'.wd → d'.out = l → s'.bits ++ numB false ((cl + 1 : Nat) : Int) s'.wd = B → finC b n cl sz most (K + 1) d' = (l, 0) := by
    intro s' d' K hp hw hw2 ho hb
    have := pow_cl h1 hcl hw2
    obtain ⟨t1, t2⟩ := rd_code hBs (List.IsPrefix.trans (by rw [hb]; exact List.prefix_refl _) (List.prefix_refl B)) (show cl + 1 < 2 ^ s'.wd by omega)
    rw [← hp, ← hw] at t1 t2
    rw [finC, if_neg (by omega), t1, if_neg (by omega), if_pos rfl, ho]
  cases now with
  | none =>
    obtain ⟨z1, z2, z3⟩ := f3.now0 rfl
    exact fin s d K f3.p f3.wd f3.w2 (by rw [z2, z1]) hB
  | some k =>
    have hppre : (s.put k).bits <+: B := by rw [← hB]; exact List.prefix_append _ _
    obtain ⟨d1, S1, hf1, hk1, hP, _, _⟩ := put_dec (most := most) hBs h1 hcl f3 hppre hm K f2
    rw [hf1]
    obtain ⟨K, rfl⟩ : ∃ j, K = j + 1 := ⟨K - 1, by omega⟩
    exact fin (s.put k) d1 K hP.p hP.wd hP.w2 hP.out hB
end Go.Proofs.Ytioghgnngdcicaa
