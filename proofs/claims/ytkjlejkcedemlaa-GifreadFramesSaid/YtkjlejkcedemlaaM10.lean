/- What a writer of GIF's codes writes is read again: the plain law. LzwBack: how long it is; Most; a row many times. GIF's pieces: the plain law; slices of bytes. Blocks and Unblock, the program's and the document's. Unblock, the program's and the document's. -/
import Derived.Test.YtkjlejkcedemlaaM9

namespace Go.Proofs.Ytkjlejkcedemlaa
set_option maxRecDepth 100000
set_option linter.unusedVariables false

/-- The bits that bytes hold. -/
structure Bs (B : List Nat) (b : Nat → Nat) (n : Nat) : Prop where
  bit : ∀ k (h : k < B.length), bitL b k = B[k]
  len : B.length ≤ 8 * n
theorem bs_pack (B : List Nat) (hB : ∀ v ∈ B, v < 2) : Bs B (gz (pack false B).1) (pack false B).1.length := by
  refine ⟨fun k h => ?_, by rw [pack_len]; omega⟩
  have h1 := pack_get false B hB k h
  have h2 : ∀ (f : Nat → Nat), bitB false f k = bitL f k := fun f => by simp [bitB]
  rw [h2] at h1
  exact h1
theorem rd_code {B : List Nat} {b : Nat → Nat} {n c wd : Nat} {pre : List Nat} (h : Bs B b n) (hp : pre ++ numB false (c : Nat) wd <+: B) (hc : c < 2 ^ wd) : takeL b pre.length wd = c ∧ pre.length + wd ≤ 8 * n := by
  obtain ⟨post, hB⟩ := hp
  have hl : pre.length + wd + post.length = B.length := by rw [← hB]; simp [numB_len]; omega
  have hbl := h.len
  refine ⟨?_, by omega⟩
  have h1 := takeL_num b pre.length (c : Nat) wd (fun i hi => by
    have h2 := h.bit (pre.length + i) (by omega)
    rw [h2]
    have h3 : B[pre.length + i]? = some (bitX (c : Nat) i) := by
      rw [← hB, List.append_assoc, List.getElem?_append_right (by omega), Nat.add_sub_cancel_left, List.getElem?_append_left (by rw [numB_len]; exact hi), numB_get false _ _ _ hi]
      simp
    have h4 := List.getElem?_eq_getElem (l := B) (i := pre.length + i) (by omega)
    rw [h4] at h3
    injection h3)
  have h5 : ((c : Nat) : Int) % 2 ^ wd = (c : Nat) := Int.emod_eq_of_lt (by omega) (by
    have : ((2 ^ wd : Nat) : Int) = (2 : Int) ^ wd := by simp
    rw [← this]
    omega)
  rw [h5] at h1
  omega
theorem rowOf_ne {cl : Nat} {RF : List (List Nat)} {k : Nat} {S : List Nat} (h : rowOf cl RF k = some S) : k ≠ cl ∧ k ≠ cl + 1 ∧ k < cl + 2 + RF.length := by
  unfold rowOf at h
  by_cases h1 : k < cl
  · exact ⟨by omega, by omega, by omega⟩
  · rw [if_neg h1] at h
    by_cases h2 : k < cl + 2
    · rw [if_pos h2] at h; cases h
    · rw [if_neg h2] at h
      have := (List.getElem?_eq_some_iff.1 h).1
      omega
/-- Where a reader stands that has read what a writer wrote. -/
structure InvD (cl sz : Nat) (q : Ez × Option Nat) (l : List Nat) (d : Cz) (RF : List (List Nat)) : Prop where
  p : d.p = q.1.bits.length
  wd : d.wd = q.1.wd
  nx : q.1.nx = cl + 2 + d.rows.length
  w1 : q.1.wd ≤ 12
  w2 : sz + 1 ≤ q.1.wd
  w3 : q.1.nx < 2 ^ q.1.wd ∨ (q.1.wd = 12 ∧ q.1.nx ≤ 4096)
  tab : TabOk cl RF q.1.tab
  full : cl + 2 + RF.length ≤ 4096
  st : (q.1.first = true ∧ RF = [] ∧ d.rows = [] ∧ d.last = none) ∨ (q.1.first = false ∧ ∃ l0 v, d.last = some l0 ∧ l0 ≠ [] ∧ RF = d.rows ++ [l0 ++ [v]] ∧ cl + 2 + d.rows.length < 4096 ∧ ∀ k S, q.2 = some k → rowOf cl RF k = some S → S.headD 0 = v)
  now0 : q.2 = none → l = [] ∧ d.out = [] ∧ q.1.first = true
  now1 : ∀ k, q.2 = some k → ∃ S, rowOf cl RF k = some S ∧ S ≠ [] ∧ d.out ++ S = l
/-- What put leaves. -/
structure PutD (cl sz : Nat) (s : Ez) (k : Nat) (l : List Nat) (d : Cz) (RF : List (List Nat)) (S : List Nat) : Prop where
  p : d.p = (s.put k).bits.length
  wd : d.wd = (s.put k).wd
  nx : (s.put k).nx = cl + 2 + d.rows.length
  w1 : (s.put k).wd ≤ 12
  w2 : sz + 1 ≤ (s.put k).wd
  w3 : (s.put k).nx < 2 ^ (s.put k).wd ∨ ((s.put k).wd = 12 ∧ (s.put k).nx ≤ 4096)
  rows : d.rows = RF
  last : d.last = some S
  out : d.out = l
theorem grow_w3 {wd nx : Nat} (h1 : wd ≤ 12) (h3 : nx < 2 ^ wd ∨ (wd = 12 ∧ nx ≤ 4096)) : growB wd nx ≤ 12 ∧ wd ≤ growB wd nx ∧ (growN nx < 2 ^ growB wd nx ∨ (growB wd nx = 12 ∧ growN nx ≤ 4096)) := by
  have hp : 2 ^ (wd + 1) = 2 * 2 ^ wd := by rw [Nat.pow_succ]; omega
  have hp1 : 1 ≤ 2 ^ wd := Nat.one_le_two_pow
  unfold growB growN
  by_cases h : nx < 4096 ∧ nx + 1 = 2 ^ wd ∧ wd < 12
  · rw [if_pos h, if_pos h.1]
    refine ⟨by omega, by omega, .inl (by rw [hp]; omega)⟩
  · rw [if_neg h]
    refine ⟨h1, Nat.le_refl _, ?_⟩
    by_cases hn : nx < 4096
    · rw [if_pos hn]
      rcases h3 with h3 | ⟨h3, h4⟩
      · by_cases h9 : nx + 1 = 2 ^ wd
        · refine .inr ⟨by omega, by omega⟩
        · exact .inl (by omega)
      · exact .inr ⟨h3, by omega⟩
    · rw [if_neg hn]
      exact h3
theorem put_dec {B : List Nat} {b : Nat → Nat} {n cl sz most : Nat} (hB : Bs B b n) (hs : 2 ≤ sz) (hcl : cl = 2 ^ sz) {s : Ez} {k : Nat} {l : List Nat} {d : Cz} {RF : List (List Nat)} (h : InvD cl sz (s, some k) l d RF) (hpre : (s.put k).bits <+: B) (hl : l.length ≤ most) (K : Nat) (hK : 8 * n - d.p < K + 1) :
    ∃ d' S, finC b n cl sz most (K + 1) d = finC b n cl sz most K d' ∧ 8 * n - d'.p < K ∧ PutD cl sz s k l d' RF S ∧ rowOf cl RF k = some S ∧ S ≠ [] := by
  obtain ⟨S, hS, hSne, hout⟩ := h.now1 k rfl
  have hp : d.p = s.bits.length := h.p
  have hwd : d.wd = s.wd := h.wd
  have hnx : s.nx = cl + 2 + d.rows.length := h.nx
  have w1 : s.wd ≤ 12 := h.w1
  have w2 : sz + 1 ≤ s.wd := h.w2
  have w3 : s.nx < 2 ^ s.wd ∨ (s.wd = 12 ∧ s.nx ≤ 4096) := h.w3
  obtain ⟨e1, e2, e3⟩ := rowOf_ne hS
  have hfull := h.full
  have hk : k ≤ s.nx := by
    rcases h.st with ⟨_, hr, hd, _⟩ | ⟨_, l0, v, _, _, hr, _, _⟩
    · rw [hr] at e3
      simp at e3
      omega
    · rw [hr] at e3
      simp at e3
      omega
  have hk2 : k < 2 ^ s.wd := by
    rcases w3 with h9 | ⟨h9, h10⟩
    · omega
    · rw [h9]
      have : (2 : Nat) ^ 12 = 4096 := rfl
      omega
  obtain ⟨t1, t2⟩ := rd_code hB hpre hk2
  rw [← hp, ← hwd] at t1 t2
  have hbad : badC cl d.rows d.last k = false := by
    unfold badC
    rcases h.st with ⟨_, hr, hd, hla⟩ | ⟨_, l0, v, hla, _, hr, _, _⟩
    · rw [hr] at e3
      simp at e3
      have : k < cl := by omega
      simp [this]
    · rw [hla]
      simp
      intro _
      omega
  have hrow : rowC cl d.rows d.last k = S := by
    have hS' := hS
    unfold rowOf at hS'
    unfold rowC
    by_cases h1 : k < cl
    · rw [if_pos h1] at hS' ⊢
      injection hS'
    · rw [if_neg h1] at hS' ⊢
      rw [if_neg (by omega)] at hS'
      rcases h.st with ⟨_, hr, hd, hla⟩ | ⟨_, l0, v, hla, hl0, hr, _, hhd⟩
      · rw [hr] at hS'
        simp at hS'
      · rw [hr] at hS'
        by_cases h2 : k = cl + 2 + d.rows.length
        · rw [if_pos h2, hla]
          rw [List.getElem?_append_right (by omega), show k - cl - 2 - d.rows.length = 0 by omega] at hS'
          simp at hS'
          have hv := hhd k S rfl hS
          rw [← hS'] at hv ⊢
          simp only [Option.getD_some]
          congr 2
          cases l0 with
          | nil => exact absurd rfl hl0
          | cons a r => simpa using hv
        · rw [if_neg h2]
          rw [List.getElem?_append_left (by omega)] at hS'
          rw [hS']
          rfl
  have hlen : ¬ most < d.out.length + S.length := by
    have := congrArg List.length hout
    rw [List.length_append] at this
    omega
  refine ⟨d.step cl S, S, ?_, ?_, ⟨?_, ?_, ?_, ?_, ?_, ?_, ?_, rfl, hout⟩, hS, hSne⟩
  · rw [finC, if_neg (by omega), t1, if_neg e1, if_neg e2, hbad, hrow]
    simp only [Bool.false_eq_true, if_false]
    rw [if_neg hlen]
  · show 8 * n - (d.p + d.wd) < K
    omega
  · show d.p + d.wd = (s.bits ++ numB false (k : Nat) s.wd).length
    rw [List.length_append, numB_len, hp, hwd]
  · show wideC cl d.wd d.rows d.last = if s.first = true then s.wd else growB s.wd s.nx
    rcases h.st with ⟨hf, _, _, hla⟩ | ⟨hf, l0, v, hla, _⟩
    · have hf' : s.first = true := hf
      rw [hf', if_pos rfl, hla, hwd]
      unfold wideC
      simp
    · have hf' : s.first = false := hf
      rw [hf', hla, hnx, growB_eq cl s.wd d.rows l0, hwd]
      simp
  · show (if s.first = true then s.nx else growN s.nx) = cl + 2 + (rowsC cl d.rows d.last S).length
    rcases h.st with ⟨hf, _, hd, hla⟩ | ⟨hf, l0, v, hla, _⟩
    · have hf' : s.first = true := hf
      rw [hf', if_pos rfl, hnx, hla]
      unfold rowsC
      simp
    · have hf' : s.first = false := hf
      rw [hf', hla, hnx, growN_eq cl d.rows l0 S]
      simp
  · show (if s.first = true then s.wd else growB s.wd s.nx) ≤ 12
    split
    · exact w1
    · exact (grow_w3 w1 w3).1
  · show sz + 1 ≤ (if s.first = true then s.wd else growB s.wd s.nx)
    split
    · exact w2
    · exact Nat.le_trans w2 (grow_w3 w1 w3).2.1
  · show (if s.first = true then s.nx else growN s.nx) < 2 ^ (if s.first = true then s.wd else growB s.wd s.nx) ∨ _
    cases hf : s.first with
    | true => 
      simp only [Ez.put, hf, if_true]
      exact w3
    | false => 
      simp only [Ez.put, hf, Bool.false_eq_true, if_false]
      exact (grow_w3 w1 w3).2.2
  · show rowsC cl d.rows d.last S = RF
    rcases h.st with ⟨_, hr, hd, hla⟩ | ⟨_, l0, v, hla, _, hr, hfl, hhd⟩
    · rw [hla, hd, hr]
      unfold rowsC
      simp
    · rw [hla, hr]
      unfold rowsC
      rw [if_pos ⟨rfl, hfl⟩, hhd k S rfl hS]
      rfl
theorem pow_cl {cl sz wd : Nat} (hs : 2 ≤ sz) (hcl : cl = 2 ^ sz) (hw : sz + 1 ≤ wd) : cl + 2 < 2 ^ wd := by
  have h1 : 2 ^ (sz + 1) ≤ 2 ^ wd := Nat.pow_le_pow_right (by omega) hw
  have h2 : 2 ^ 2 ≤ 2 ^ sz := Nat.pow_le_pow_right (by omega) hs
  have h3 : 2 ^ (sz + 1) = 2 ^ sz * 2 := Nat.pow_succ ..
  omega
/-- A Clear is read. -/
theorem clear_dec {B : List Nat} {b : Nat → Nat} {n cl sz most : Nat} (hB : Bs B b n) (hs : 2 ≤ sz) (hcl : cl = 2 ^ sz) {s : Ez} {d : Cz} (hp : d.p = s.bits.length) (hwd : d.wd = s.wd) (hw : sz + 1 ≤ s.wd) (hpre : (s.clear cl sz).bits <+: B) (K : Nat) (hK : 8 * n - d.p < K + 1) :
    finC b n cl sz most (K + 1) d = finC b n cl sz most K (d.reset sz) ∧ 8 * n - (d.reset sz).p < K ∧ (d.reset sz).p = (s.clear cl sz).bits.length := by
  have hlt := pow_cl hs hcl hw
  obtain ⟨t1, t2⟩ := rd_code hB hpre (show cl < 2 ^ s.wd by omega)
  rw [← hp, ← hwd] at t1 t2
  refine ⟨?_, ?_, ?_⟩
  · rw [finC, if_neg (by omega), t1, if_pos rfl]
  · show 8 * n - (d.p + d.wd) < K
    omega
  · show d.p + d.wd = (s.bits ++ numB false (cl : Nat) s.wd).length
    rw [List.length_append, numB_len, hp, hwd]
theorem step_dec {B : List Nat} {b : Nat → Nat} {n cl sz most : Nat} (hB : Bs B b n) (hs : 2 ≤ sz) (hs8 : sz ≤ 8) (hcl : cl = 2 ^ sz) {q : Ez × Option Nat} {v : Nat} {l : List Nat} {d : Cz} {RF : List (List Nat)} (h : InvD cl sz q l d RF) (hv : v < cl) (hpre : (stepE cl sz q v).1.bits <+: B) (hl : l.length ≤ most) (K : Nat) (hK : 8 * n - d.p < K) :
    ∃ K' d' RF', finC b n cl sz most K d = finC b n cl sz most K' d' ∧ 8 * n - d'.p < K' ∧ InvD cl sz (stepE cl sz q v) (l ++ [v]) d' RF' := by
  obtain ⟨s, now⟩ := q
  have hc256 : cl ≤ 256 := by rw [hcl]; exact Nat.pow_le_pow_right (n := 2) (j := 8) (by omega) hs8
  cases now with
  | none =>
    obtain ⟨z1, z2, z3⟩ := h.now0 rfl
    have z3' : s.first = true := z3
    refine ⟨K, d, RF, rfl, hK, ⟨h.p, h.wd, h.nx, h.w1, h.w2, h.w3, h.tab, h.full, ?_, (fun e => by cases e), fun k hk => ?_⟩⟩
    · rcases h.st with h9 | ⟨hf, _⟩
      · exact .inl h9
      · have hf' : s.first = false := hf
        rw [hf'] at z3'
        cases z3'
    · injection hk with hk
      subst hk
      exact ⟨[v], by unfold rowOf; rw [if_pos hv], by simp, by rw [z1, z2]⟩
  | some k =>
    obtain ⟨S, hS, hSne, hout⟩ := h.now1 k rfl
    unfold stepE at hpre ⊢
    dsimp only at hpre ⊢
    by_cases hm : (k, v) ∈ s.tab
    · rw [if_pos hm] at hpre ⊢
      have hidx := List.idxOf_lt_length_of_mem hm
      have hget : s.tab[s.tab.idxOf (k, v)]? = some (k, v) := by
        rw [List.getElem?_eq_getElem hidx]
        simp
      generalize s.tab.idxOf (k, v) = i at *
      have htl : s.tab.length = RF.length := h.tab.len
      obtain ⟨r, hr⟩ : ∃ r, RF[i]? = some r := ⟨_, List.getElem?_eq_getElem (by omega)⟩
      obtain ⟨a, v', pre, g1, g2, g3, g4, g5⟩ := h.tab.row i r hr
      have g1' : s.tab[i]? = some (a, v') := g1
      rw [hget] at g1'
      injection g1' with g1'
      injection g1' with ga gv
      subst ga gv
      rw [hS] at g4
      injection g4 with g4
      subst g4
      have hro : rowOf cl RF (cl + 2 + i) = some (S ++ [v]) := by
        unfold rowOf
        rw [if_neg (by omega), if_neg (by omega), show cl + 2 + i - cl - 2 = i by omega, hr, g5]
      refine ⟨K, d, RF, rfl, hK, ⟨h.p, h.wd, h.nx, h.w1, h.w2, h.w3, h.tab, h.full, ?_, (fun e => by cases e), fun k' hk => ?_⟩⟩
      · rcases h.st with h9 | ⟨hf, l0, v0, f1, f2, f3, f4, f5⟩
        · exact .inl h9
        · refine .inr ⟨hf, l0, v0, f1, f2, f3, f4, fun k' S' hk' hS' => ?_⟩
          injection hk' with hk'
          subst hk'
          rw [hro] at hS'
          injection hS' with hS'
          subst hS'
          have := f5 k S rfl hS
          cases S with
          | nil => exact absurd rfl hSne
          | cons y r => simpa using this
      · injection hk with hk
        subst hk
        exact ⟨S ++ [v], hro, by simp, by rw [← hout, List.append_assoc]⟩
    · rw [if_neg hm] at hpre ⊢
      obtain ⟨K, rfl⟩ : ∃ j, K = j + 1 := ⟨K - 1, by omega⟩
      have hppre : (s.put k).bits <+: B := by
        refine List.IsPrefix.trans ?_ hpre
        unfold Ez.add
        split
        · exact List.prefix_refl _
        · exact List.prefix_append _ _
      obtain ⟨d1, S1, hf1, hk1, hP, hS1, hS1ne⟩ := put_dec hB hs hcl h hppre hl K hK
      rw [hS] at hS1
      injection hS1 with hS1
      subst hS1
      obtain ⟨e1, e2, e3⟩ := rowOf_ne hS
      have htl : s.tab.length = RF.length := h.tab.len
      unfold Ez.add at hpre ⊢
      by_cases hfull : cl + 2 + s.tab.length < 4096
      · rw [if_pos hfull] at hpre ⊢
        refine ⟨K, d1, RF ++ [S ++ [v]], hf1, hk1, ⟨hP.p, hP.wd, hP.nx, hP.w1, hP.w2, hP.w3, h.tab.snoc e3 hS (by omega), by simp; omega, .inr ⟨rfl, S, v, hP.last, hSne, by rw [hP.rows], by rw [hP.rows]; omega, fun k' S' hk' hS' => ?_⟩, (fun e => by cases e), fun k' hk' => ?_⟩⟩
        · injection hk' with hk'
          subst hk'
          unfold rowOf at hS'
          rw [if_pos hv] at hS'
          injection hS' with hS'
          subst hS'
          rfl
        · injection hk' with hk'
          subst hk'
          exact ⟨[v], by unfold rowOf; rw [if_pos hv], by simp, by rw [hP.out]⟩
      · rw [if_neg hfull] at hpre ⊢
        obtain ⟨K, rfl⟩ : ∃ j, K = j + 1 := ⟨K - 1, by omega⟩
        obtain ⟨g1, g2, g3⟩ := clear_dec (most := most) hB hs hcl hP.p hP.wd hP.w2 hpre K hk1
        have hlt := pow_cl hs hcl (Nat.le_refl (sz + 1))
        refine ⟨K, d1.reset sz, [], hf1.trans g1, g2, ⟨g3, rfl, rfl, by show sz + 1 ≤ 12; omega, Nat.le_refl _, .inl hlt, ⟨rfl, fun i r hi => by simp at hi⟩, by simp; omega, .inl ⟨rfl, rfl, rfl, rfl⟩, (fun e => by cases e), fun k' hk' => ?_⟩⟩
        injection hk' with hk'
        subst hk'
        exact ⟨[v], by unfold rowOf; rw [if_pos hv], by simp, by show d1.out ++ [v] = _; rw [hP.out]⟩
theorem bits_step (cl sz : Nat) (q : Ez × Option Nat) (v : Nat) : q.1.bits <+: (stepE cl sz q v).1.bits := by
  obtain ⟨s, now⟩ := q
  unfold stepE
  cases now with
  | none => exact List.prefix_refl _
  | some k =>
    dsimp only
    split
    · exact List.prefix_refl _
    · unfold Ez.add
      split
      · exact List.prefix_append _ _
      · exact (List.prefix_append _ _).trans (List.prefix_append _ _)
theorem bits_run (cl sz : Nat) (m : List Nat) : ∀ q : Ez × Option Nat, q.1.bits <+: (m.foldl (stepE cl sz) q).1.bits := by
  induction m with
  | nil => exact fun q => List.prefix_refl _
  | cons a m ih => exact fun q => (bits_step cl sz q a).trans (ih _)
theorem bits_end (cl : Nat) (q : Ez × Option Nat) : q.1.bits <+: endE cl q := by
  obtain ⟨s, now⟩ := q
  cases now with
  | none => exact List.prefix_append _ _
  | some k => exact (List.prefix_append _ _).trans (List.prefix_append _ _)
theorem bits_lt2 (sz : Nat) (l : List Nat) : ∀ v ∈ endE (2 ^ sz) (runE (2 ^ sz) sz l), v < 2 := by
  have key : ∀ q : Ez × Option Nat, (∀ v ∈ q.1.bits, v < 2) → ∀ v ∈ endE (2 ^ sz) q, v < 2 := by
    rintro ⟨s, now⟩ hq v hv
    cases now with
    | none =>
      rcases List.mem_append.1 hv with h | h
      · exact hq v h
      · exact numB_lt _ _ _ v h
    | some k =>
      rcases List.mem_append.1 hv with h | h
      · rcases List.mem_append.1 h with h | h
        · exact hq v h
        · exact numB_lt _ _ _ v h
      · exact numB_lt _ _ _ v h
  have step : ∀ (q : Ez × Option Nat) (x : Nat), (∀ v ∈ q.1.bits, v < 2) → ∀ v ∈ (stepE (2 ^ sz) sz q x).1.bits, v < 2 := by
    rintro ⟨s, now⟩ x hq v hv
    unfold stepE at hv
    cases now with
    | none => exact hq v hv
    | some k =>
      dsimp only at hv
      split at hv
      · exact hq v hv
      · unfold Ez.add at hv
        split at hv
        · rcases List.mem_append.1 hv with h | h
          · exact hq v h
          · exact numB_lt _ _ _ v h
        · rcases List.mem_append.1 hv with h | h
          · rcases List.mem_append.1 h with h | h
            · exact hq v h
            · exact numB_lt _ _ _ v h
          · exact numB_lt _ _ _ v h
  have run : ∀ (m : List Nat) (q : Ez × Option Nat), (∀ v ∈ q.1.bits, v < 2) → ∀ v ∈ (m.foldl (stepE (2 ^ sz) sz) q).1.bits, v < 2 := by
    intro m
    induction m with
    | nil => intro q hq; exact hq
    | cons a m ih => intro q hq; exact ih _ (step q a hq)
  refine key _ (run l _ (fun v hv => ?_))
  have hv' : v ∈ ([] : List Nat) ++ numB false ((2 ^ sz : Nat) : Int) (sz + 1) := hv
  rw [List.nil_append] at hv'
  exact numB_lt _ _ _ v hv'
/-- What was written is read. -/
theorem back_E (sz : Nat) (h1 : 2 ≤ sz) (h2 : sz ≤ 8) (l : List Nat) (hl : ∀ v ∈ l, v < 2 ^ sz) (most : Nat) (hm : l.length ≤ most) : lzwV (gz (lzwE sz l)) (lzwE sz l).length sz most = (l, 0) := by
  obtain ⟨cl, hcl⟩ : ∃ cl, cl = 2 ^ sz := ⟨_, rfl⟩
  rw [lzwV_yes _ _ sz most h1 h2]
  have hlt2 := bits_lt2 sz l
  unfold lzwE
  rw [← hcl] at hl hlt2 ⊢
  have hBs := bs_pack _ hlt2
  have hpreR := bits_end cl (runE cl sz l)
  generalize hB : endE cl (runE cl sz l) = B at *
  generalize gz (pack false B).1 = b at *
  generalize (pack false B).1.length = n at *
  have hlt := pow_cl h1 hcl (Nat.le_refl (sz + 1))
  have hc256 : cl ≤ 256 := by rw [hcl]; exact Nat.pow_le_pow_right (n := 2) (j := 8) (by omega) h2
  have key : ∀ j, j ≤ l.length → ∃ K d RF, finC b n cl sz most (8 * n + 1) (cz0 sz) = finC b n cl sz most K d ∧ 8 * n - d.p < K ∧ InvD cl sz (runE cl sz (l.take j)) (l.take j) d RF := by
    intro j
    induction j with
    | zero =>
      intro _
      have hpre0 : (Ez.clear ⟨[], sz + 1, cl + 2, [], true⟩ cl sz).bits <+: B := (bits_run cl sz l (ez0 cl sz, none)).trans hpreR
      obtain ⟨g1, g2, g3⟩ := clear_dec (most := most) hBs h1 hcl (s := ⟨[], sz + 1, cl + 2, [], true⟩) (d := cz0 sz) rfl rfl (Nat.le_refl _) hpre0 (8 * n) (by show 8 * n - 0 < _; omega)
      rw [List.take_zero]
      exact ⟨8 * n, (cz0 sz).reset sz, [], g1, g2, ⟨g3, rfl, rfl, by show sz + 1 ≤ 12; omega, Nat.le_refl _, .inl hlt, ⟨rfl, fun i r hi => by simp at hi⟩, by simp; omega, .inl ⟨rfl, rfl, rfl, rfl⟩, (fun _ => ⟨rfl, rfl, rfl⟩), (fun k e => by cases e)⟩⟩
    | succ j ih =>
      intro hj
      obtain ⟨K, d, RF, f1, f2, f3⟩ := ih (by omega)
      have hget : l[j]? = some l[j] := List.getElem?_eq_getElem (by omega)
      have htk : l.take (j + 1) = l.take j ++ [l[j]] := by rw [List.take_add_one, hget]; rfl
      have hpre1 : (stepE cl sz (runE cl sz (l.take j)) l[j]).1.bits <+: B := by
        rw [← runE_snoc, ← htk]
        refine List.IsPrefix.trans ?_ hpreR
        have : runE cl sz l = (l.drop (j + 1)).foldl (stepE cl sz) (runE cl sz (l.take (j + 1))) := by
          unfold runE
          rw [← List.foldl_append, List.take_append_drop]
        rw [this]
        exact bits_run cl sz _ _
      obtain ⟨K', d', RF', g1, g2, g3⟩ := step_dec (most := most) hBs h1 h2 hcl f3 (hl _ (List.getElem_mem _)) hpre1 (by rw [List.length_take]; omega) K f2
      rw [htk, runE_snoc]
      exact ⟨K', d', RF', f1.trans g1, g2, g3⟩
  have hkey := key l.length (Nat.le_refl _)
  rw [List.take_length] at hkey
  obtain ⟨K, d, RF, f1, f2, f3⟩ := hkey
  rw [f1]
  obtain ⟨K, rfl⟩ : ∃ j, K = j + 1 := ⟨K - 1, by omega⟩
  generalize hq : runE cl sz l = q at *
  obtain ⟨s, now⟩ := q
  have fin : ∀ (s' : Ez) (d' : Cz) (K : Nat), d'.p = s'.bits.length → d'.wd = s'.wd → sz + 1 ≤ s'.wd → d'.out = l → s'.bits ++ numB false ((cl + 1 : Nat) : Int) s'.wd = B → finC b n cl sz most (K + 1) d' = (l, 0) := by
    intro s' d' K hp hw hw2 ho hb
    have := pow_cl h1 hcl hw2
    obtain ⟨t1, t2⟩ := rd_code hBs (List.IsPrefix.trans (by rw [hb]; exact List.prefix_refl _) (List.prefix_refl B)) (show cl + 1 < 2 ^ s'.wd by omega)
    rw [← hp, ← hw] at t1 t2
    rw [finC, if_neg (by omega), t1, if_neg (by omega), if_pos rfl, ho]
  cases now with
  | none =>
    obtain ⟨z1, z2, z3⟩ := f3.now0 rfl
    exact fin s d K f3.p f3.wd f3.w2 (by rw [z2, z1]) hB
  | some k =>
    have hppre : (s.put k).bits <+: B := by rw [← hB]; exact List.prefix_append _ _
    obtain ⟨d1, S1, hf1, hk1, hP, _, _⟩ := put_dec (most := most) hBs h1 hcl f3 hppre hm K f2
    rw [hf1]
    obtain ⟨K, rfl⟩ : ∃ j, K = j + 1 := ⟨K - 1, by omega⟩
    exact fin (s.put k) d1 K hP.p hP.wd hP.w2 hP.out hB
end Go.Proofs.Ytkjlejkcedemlaa

namespace Go.Proofs.Ytkjlejkcedemlaa
set_option maxRecDepth 100000
set_option linter.unusedVariables false
open Go.ChangeShapes Go.WideShapes Go.ChangeAt Go.RowKit

theorem clr_bits (s : Ez) (cl sz : Nat) (h : s.wd ≤ 12) : (s.clear cl sz).bits.length ≤ s.bits.length + 12 := by
  show (s.bits ++ numB false (cl : Nat) s.wd).length ≤ _
  rw [List.length_append, numB_len]
  omega
theorem size_run {cl sz : Nat} (hs : sz ≤ 8) (hc : cl ≤ 256) (l : List Nat) (hl : ∀ v ∈ l, v < 256) : ∃ c, (runE cl sz l).1.bits.length ≤ 12 * l.length + 12 + 12 * c ∧ 3838 * c + (runE cl sz l).1.tab.length ≤ l.length := by
  have key : ∀ j, j ≤ l.length → ∃ c, (runE cl sz (l.take j)).1.bits.length ≤ 12 * j + 12 + 12 * c ∧ 3838 * c + (runE cl sz (l.take j)).1.tab.length ≤ j := by
    intro j
    induction j with
    | zero =>
      intro _
      refine ⟨0, ?_, ?_⟩
      · rw [List.take_zero]
        have := clr_bits ⟨[], sz + 1, cl + 2, [], true⟩ cl sz (by show sz + 1 ≤ 12; omega)
        simpa [runE, ez0] using this
      · rw [List.take_zero]
        simp [runE, ez0, Ez.clear]
    | succ j ih =>
      intro hj
      obtain ⟨c, h1, h2⟩ := ih (by omega)
      have hiv := inv_run (cl := cl) (sz := sz) hs hc (l.take j) (fun v hv => hl v (List.mem_of_mem_take hv))
      have hget : l[j]? = some l[j] := List.getElem?_eq_getElem (by omega)
      have htk : l.take (j + 1) = l.take j ++ [l[j]] := by rw [List.take_add_one, hget]; rfl
      rw [htk, runE_snoc]
      obtain ⟨w1, w2, w3, w4, w5⟩ := hiv
      generalize runE cl sz (l.take j) = q at *
      obtain ⟨s, now⟩ := q
      unfold stepE
      cases now with
      | none => exact ⟨c, by show s.bits.length ≤ _; simp only at h1; omega, by show 3838 * c + s.tab.length ≤ _; simp only at h2; omega⟩
      | some k =>
        dsimp only at *
        by_cases hm : (k, l[j]) ∈ s.tab
        · rw [if_pos hm]
          exact ⟨c, by dsimp only; omega, by dsimp only; omega⟩
        · rw [if_neg hm]
          have b1 := put_bits s k w1
          have b2 := put_wd (s := s) k w1
          unfold Ez.add
          by_cases hf : cl + 2 + s.tab.length < 4096
          · rw [if_pos hf]
            refine ⟨c, ?_, ?_⟩
            · show (s.put k).bits.length ≤ _
              omega
            · show 3838 * c + (s.tab ++ [(k, l[j])]).length ≤ _
              rw [List.length_append, List.length_singleton]
              omega
          · rw [if_neg hf]
            have b3 := clr_bits (s.put k) cl sz b2
            refine ⟨c + 1, ?_, ?_⟩
            · show ((s.put k).clear cl sz).bits.length ≤ _
              omega
            · show 3838 * (c + 1) + 0 ≤ _
              omega
  have := key l.length (Nat.le_refl _)
  rwa [List.take_length] at this
theorem size_E (sz : Nat) (h1 : 2 ≤ sz) (h2 : sz ≤ 8) (l : List Nat) (hl : ∀ v ∈ l, v < 256) : (lzwE sz l).length ≤ 2 * l.length + l.length / 4 + 16 := by
  have hc := (cl_bound h1 h2).2
  obtain ⟨c, g1, g2⟩ := size_run (cl := 2 ^ sz) (sz := sz) h2 hc l hl
  have hiv := inv_run (cl := 2 ^ sz) (sz := sz) h2 hc l hl
  unfold lzwE
  rw [pack_len]
  generalize runE (2 ^ sz) sz l = q at *
  obtain ⟨s, now⟩ := q
  obtain ⟨w1, w2, w3, w4, w5⟩ := hiv
  dsimp only at *
  have he : (endE (2 ^ sz) (s, now)).length ≤ s.bits.length + 24 := by
    cases now with
    | none =>
      show (s.bits ++ numB false _ s.wd).length ≤ _
      rw [List.length_append, numB_len]
      omega
    | some k =>
      have b1 := put_bits s k w1
      have b2 := put_wd (s := s) k w1
      show ((s.put k).bits ++ numB false _ (s.put k).wd).length ≤ _
      rw [List.length_append, numB_len]
      omega
  omega
/-- A row, k times. -/
def rep (k : Nat) (l : List Nat) : List Nat := (List.replicate k l).flatten
theorem rep_succ (k : Nat) (l : List Nat) : rep (k + 1) l = rep k l ++ l := by
  unfold rep
  rw [List.replicate_succ', List.flatten_append]
  simp
theorem rep_len (k : Nat) (l : List Nat) : (rep k l).length = k * l.length := by
  induction k with
  | zero => simp [rep]
  | succ k ih => rw [rep_succ, List.length_append, ih, Nat.add_mul]; omega
theorem rep_mem {k : Nat} {l : List Nat} {v : Nat} (h : v ∈ rep k l) : v ∈ l := by
  unfold rep at h
  obtain ⟨m, hm, hv⟩ := List.mem_flatten.1 h
  rw [(List.mem_replicate.1 hm).2] at hv
  exact hv
theorem rep_get {k : Nat} (hk : 0 < k) (l : List Nat) {p : Nat} (hp : p < l.length) : (rep k l)[p]? = l[p]? := by
  obtain ⟨k, rfl⟩ : ∃ j, k = j + 1 := ⟨k - 1, by omega⟩
  unfold rep
  rw [List.replicate_succ, List.flatten_cons, List.getElem?_append_left hp]
theorem rem200 (m : Nat) : ((m : Nat) : Int).tmod 200 = ((m % 200 : Nat) : Int) := by
  rw [Int.tmod_eq_emod_of_nonneg (by omega)]
  omega
theorem map_gz (l : List Nat) : (List.range l.length).map (gz l) = l := by
  apply List.ext_getElem?
  intro j
  by_cases h : j < l.length
  · simp [h, gz]
  · rw [List.getElem?_eq_none (by simp; omega), List.getElem?_eq_none (by omega)]
theorem byt_gz {w : World} {A : Option Addr} {n : Nat} {b : Nat → Nat} (h : Byt w A n b) : Byt w A ((List.range n).map b).length (gz ((List.range n).map b)) := by
  intro hl
  have hl' : 0 < n := by simpa using hl
  obtain ⟨bk, off, he, hb, hc⟩ := h hl'
  refine ⟨bk, off, he, hb, fun j hj => ?_⟩
  have hj' : j < n := by simpa using hj
  rw [hc j hj']
  simp [gz, hj']
end Go.Proofs.Ytkjlejkcedemlaa

namespace Go.Proofs.Ytkjlejkcedemlaa
set_option maxRecDepth 100000
set_option linter.unusedVariables false
open Go.ChangeShapes Go.WideShapes Go.ChangeAt Go.RowKit

/-- Bytes cut into pieces. -/
def blkF : Nat → List Nat → List Nat
  | 0, _ => []
  | k + 1, l => if l = [] then [] else min l.length 255 :: (l.take 255 ++ blkF k (l.drop 255))
def blkV (l : List Nat) : List Nat := blkF l.length l ++ [0]
theorem blkF_nil (k : Nat) : blkF k [] = [] := by cases k <;> simp [blkF]
theorem blkF_fuel : ∀ (k m : Nat) (l : List Nat), l.length ≤ k → l.length ≤ m → blkF k l = blkF m l
  | 0, m, l, h1, _ => by rw [List.eq_nil_of_length_eq_zero (by omega : l.length = 0), blkF_nil, blkF_nil]
  | k, 0, l, _, h2 => by rw [List.eq_nil_of_length_eq_zero (by omega : l.length = 0), blkF_nil, blkF_nil]
  | k + 1, m + 1, l, h1, h2 => by
    rw [blkF, blkF]
    by_cases h : l = []
    · rw [if_pos h, if_pos h]
    · have hp := List.length_pos_iff.2 h
      rw [if_neg h, if_neg h, blkF_fuel k m (l.drop 255) (by rw [List.length_drop]; omega) (by rw [List.length_drop]; omega)]
theorem blkF_step {k : Nat} {l : List Nat} (h : l.length ≤ k) (hne : l ≠ []) : blkF k l = min l.length 255 :: (l.take 255 ++ blkF (l.drop 255).length (l.drop 255)) := by
  have hp := List.length_pos_iff.2 hne
  obtain ⟨k, rfl⟩ : ∃ j, k = j + 1 := ⟨k - 1, by omega⟩
  rw [blkF, if_neg hne, blkF_fuel k (l.drop 255).length (l.drop 255) (by rw [List.length_drop]; omega) (Nat.le_refl _)]
theorem blkF_len : ∀ (k : Nat) (l : List Nat), (blkF k l).length ≤ 2 * l.length
  | 0, l => by simp [blkF]
  | k + 1, l => by
    rw [blkF]
    by_cases h : l = []
    · rw [if_pos h]; simp
    · have hp := List.length_pos_iff.2 h
      have := blkF_len k (l.drop 255)
      rw [if_neg h, List.length_cons, List.length_append, List.length_take]
      rw [List.length_drop] at this
      omega
theorem blkF_lt : ∀ (k : Nat) (l : List Nat), (∀ v ∈ l, v < 256) → ∀ v ∈ blkF k l, v < 256
  | 0, l, _, v, hv => by simp [blkF] at hv
  | k + 1, l, hl, v, hv => by
    rw [blkF] at hv
    split at hv
    · cases hv
    · rcases List.mem_cons.1 hv with h | h
      · omega
      · rcases List.mem_append.1 h with h | h
        · exact hl v (List.mem_of_mem_take h)
        · exact blkF_lt k _ (fun u hu => hl u (List.mem_of_mem_drop hu)) v h
theorem blkV_len (l : List Nat) : (blkV l).length ≤ 2 * l.length + 1 := by
  have := blkF_len l.length l
  unfold blkV
  rw [List.length_append, List.length_singleton]
  omega
theorem blkV_lt (l : List Nat) (h : ∀ v ∈ l, v < 256) : ∀ v ∈ blkV l, v < 256 := fun v hv => by
  rcases List.mem_append.1 hv with h1 | h1
  · exact blkF_lt _ _ h v h1
  · simp at h1; omega
/-- Pieces joined: the bytes, how many they took, the error. -/
def unF (b : Nat → Nat) (n : Nat) : Nat → Nat → List Nat → List Nat × Nat × Nat
  | 0, _, _ => ([], 0, 2)
  | k + 1, at_, out =>
    if n ≤ at_ then ([], 0, 2)
    else if b at_ = 0 then (out, at_ + 1, 0)
    else if n - (at_ + 1) < b at_ then ([], 0, 2)
    else unF b n k (at_ + 1 + b at_) (out ++ (List.range (b at_)).map fun i => b (at_ + 1 + i))
def unV (b : Nat → Nat) (n : Nat) : List Nat × Nat × Nat := unF b n (n + 1) 0 []
theorem gz_append_left {l c : List Nat} {i : Nat} (h : i < l.length) : gz (l ++ c) i = gz l i := by
  unfold gz
  rw [List.getElem?_append_left h]
theorem gz_append_right (l c : List Nat) (i : Nat) : gz (l ++ c) (l.length + i) = gz c i := by
  unfold gz
  rw [List.getElem?_append_right (by omega), Nat.add_sub_cancel_left]
theorem range_gz {l c : List Nat} {m : Nat} (h : m ≤ l.length) : (List.range m).map (gz (l ++ c)) = l.take m := by
  apply List.ext_getElem?
  intro j
  by_cases hj : j < m
  · simp only [List.getElem?_map, List.getElem?_range hj, Option.map_some, List.getElem?_take, if_pos hj]
    unfold gz
    rw [List.getElem?_append_left (by omega), List.getElem?_eq_getElem (by omega)]
    rfl
  · rw [List.getElem?_eq_none (by simp; omega), List.getElem?_eq_none (by rw [List.length_take]; omega)]
theorem un_blk : ∀ (N : Nat) (rest pre out c : List Nat) (K : Nat), rest.length ≤ N → rest.length < K → unF (gz (pre ++ (blkF rest.length rest ++ [0]) ++ c)) (pre ++ (blkF rest.length rest ++ [0]) ++ c).length K pre.length out = (out ++ rest, pre.length + (blkF rest.length rest).length + 1, 0) := by
  intro N
  induction N with
  | zero =>
    intro rest pre out c K h hK
    rw [List.eq_nil_of_length_eq_zero (by omega : rest.length = 0)]
    obtain ⟨K, rfl⟩ : ∃ j, K = j + 1 := ⟨K - 1, by omega⟩
    have hb : gz (pre ++ ([] ++ [0]) ++ c) pre.length = 0 := by
      rw [List.append_assoc]
      have := gz_append_right pre ([] ++ [0] ++ c) 0
      rw [Nat.add_zero] at this
      rw [this]
      rfl
    rw [blkF_nil, unF, if_neg (by simp), if_pos hb]
    simp
  | succ N ih =>
    intro rest pre out c K h hK
    by_cases hne : rest = []
    · subst hne
      exact ih [] pre out c K (by simp) hK
    · have hp := List.length_pos_iff.2 hne
      obtain ⟨K, rfl⟩ : ∃ j, K = j + 1 := ⟨K - 1, by omega⟩
      rw [blkF_step (Nat.le_refl _) hne]
      obtain ⟨m, hm⟩ : ∃ m, m = min rest.length 255 := ⟨_, rfl⟩
      obtain ⟨r2, hr2⟩ : ∃ r2, r2 = rest.drop 255 := ⟨_, rfl⟩
      have htk : rest.take 255 = rest.take m := by
        rw [hm]
        by_cases hq : rest.length ≤ 255
        · rw [Nat.min_eq_left hq, List.take_of_length_le hq, List.take_length]
        · rw [Nat.min_eq_right (by omega)]
      have hml : (rest.take m).length = m := by rw [List.length_take]; omega
      have hr2l : r2.length + m = rest.length := by rw [hr2, List.length_drop, hm]; omega
      rw [htk, ← hm, ← hr2]
      have hB : pre ++ (m :: (rest.take m ++ blkF r2.length r2) ++ [0]) ++ c = (pre ++ m :: rest.take m) ++ (blkF r2.length r2 ++ [0]) ++ c := by simp
      have hB2 : pre ++ (m :: (rest.take m ++ blkF r2.length r2) ++ [0]) ++ c = pre ++ ([m] ++ (rest.take m ++ (blkF r2.length r2 ++ [0] ++ c))) := by simp
      have e1 : gz (pre ++ (m :: (rest.take m ++ blkF r2.length r2) ++ [0]) ++ c) pre.length = m := by
        rw [hB2]
        have := gz_append_right pre ([m] ++ (rest.take m ++ (blkF r2.length r2 ++ [0] ++ c))) 0
        rw [Nat.add_zero] at this
        rw [this]
        rfl
      have e2 : (List.range m).map (fun i => gz (pre ++ (m :: (rest.take m ++ blkF r2.length r2) ++ [0]) ++ c) (pre.length + 1 + i)) = rest.take m := by
        rw [hB2, ← List.append_assoc pre [m]]
        have : (fun i => gz (pre ++ [m] ++ (rest.take m ++ (blkF r2.length r2 ++ [0] ++ c))) (pre.length + 1 + i)) = gz (rest.take m ++ (blkF r2.length r2 ++ [0] ++ c)) := by
          funext i
          have := gz_append_right (pre ++ [m]) (rest.take m ++ (blkF r2.length r2 ++ [0] ++ c)) i
          rw [List.length_append, List.length_singleton] at this
          exact this
        rw [this, range_gz (by omega)]
        rw [List.take_of_length_le (by omega)]
      have hlen : (pre ++ (m :: (rest.take m ++ blkF r2.length r2) ++ [0]) ++ c).length = pre.length + 1 + m + (blkF r2.length r2).length + 1 + c.length := by
        rw [hB]
        simp [hml]
        omega
      have hm0 : m ≠ 0 := by omega
      rw [unF, if_neg (by rw [hlen]; omega), e1, if_neg hm0, if_neg (by rw [hlen]; omega), e2, hB]
      have hpl : pre.length + 1 + m = (pre ++ m :: rest.take m).length := by simp [hml]; omega
      rw [hpl, ih r2 (pre ++ m :: rest.take m) (out ++ rest.take m) c K (by omega) (by omega)]
      have hrest : rest.take m ++ r2 = rest := by rw [← htk, hr2, List.take_append_drop]
      rw [List.append_assoc, hrest]
      simp [hml]
      omega
/-- What was cut is joined again, whatever lies behind it. -/
theorem un_back (l c : List Nat) : unV (gz (blkV l ++ c)) (blkV l ++ c).length = (l, (blkV l).length, 0) := by
  have h := un_blk l.length l [] [] c ((blkV l ++ c).length + 1) (Nat.le_refl _) (by
    have : l.length ≤ (blkF l.length l).length := by
      have key : ∀ (k : Nat) (l : List Nat), l.length ≤ k → l.length ≤ (blkF k l).length := by
        intro k
        induction k with
        | zero => intro l h; omega
        | succ k ih =>
          intro l h
          rw [blkF]
          by_cases hne : l = []
          · rw [if_pos hne, hne]; simp
          · have := ih (l.drop 255) (by rw [List.length_drop]; have := List.length_pos_iff.2 hne; omega)
            rw [if_neg hne, List.length_cons, List.length_append, List.length_take]
            rw [List.length_drop] at this
            omega
      exact key _ _ (Nat.le_refl _)
    unfold blkV
    simp
    omega)
  unfold unV
  have e : ([] : List Nat) ++ (blkF l.length l ++ [0]) ++ c = blkV l ++ c := by simp [blkV]
  rw [e] at h
  rw [show (0 : Nat) = ([] : List Nat).length from rfl, h]
  simp [blkV]
theorem run_lo (A : Option Addr) (n cap q : Nat) (hq : q ≤ n) (W : World) :
    (Instr.sliceAt 22 (.slice A n cap) (some (.int .i64 (q : Nat))) none none).run Try.prog W = .ok (.slice (if cap = q then A else A.map (·.add q)) (n - q) (cap - q)) W := by
  rw [run_sliceAt_slice _ _ _ _ _ _ und_u8b, run_slice_l W 22 A n cap und_u8b .i64 (q : Nat) (by omega) (by omega), elem_u8b, size_u8b]
  simp [Result.andThen, sliced]
theorem run_hi (A : Option Addr) (n cap q : Nat) (hq : q ≤ cap) (W : World) :
    (Instr.sliceAt 22 (.slice A n cap) none (some (.int .i64 (q : Nat))) none).run Try.prog W = .ok (.slice A q cap) W := by
  rw [run_sliceAt_slice _ _ _ _ _ _ und_u8b, run_slice_h W 22 A n cap und_u8b .i64 (q : Nat) (by omega) (by omega), elem_u8b, size_u8b]
  by_cases h0 : cap = 0
  · simp [Result.andThen, sliced, h0]
  · cases A with
    | none => simp [Result.andThen, sliced, h0]
    | some a => obtain ⟨x, y, z⟩ := a; simp [Result.andThen, sliced, h0, Addr.add]
theorem run_mid (A : Option Addr) (n cap q k : Nat) (hk : q + k ≤ cap) (W : World) :
    (Instr.sliceAt 22 (.slice A n cap) (some (.int .i64 (q : Nat))) (some (.int .i64 ((q : Int) + (k : Int)))) none).run Try.prog W = .ok (.slice (if cap = q then A else A.map (·.add q)) k (cap - q)) W := by
  rw [run_sliceAt_slice _ _ _ _ _ _ und_u8b, run_slice_lh W 22 A n cap und_u8b .i64 .i64 (q : Nat) ((q : Int) + (k : Int)) (by omega) (by omega) (by omega), elem_u8b, size_u8b]
  simp only [Result.andThen, sliced, Nat.mul_one]
  congr 2
  omega
/-- A slice of bytes from its q-th on. -/
theorem Byt.from {w : World} {A : Option Addr} {n cap : Nat} {b : Nat → Nat} (h : Byt w A n b) (hn : n ≤ cap) {q k : Nat} (hq : q + k ≤ n) : Byt w (if cap = q then A else A.map (·.add q)) k (fun i => b (q + i)) := fun hk => by
  obtain ⟨bk, off, rfl, hlt, hc⟩ := h (by omega)
  rw [if_neg (by omega)]
  refine ⟨bk, off + q, by simp [Addr.add], hlt, fun j hj => ?_⟩
  have := hc (q + j) (by omega)
  rw [← Nat.add_assoc] at this
  exact this
theorem nil_from {A : Option Addr} {cap q : Nat} (hz : A = none → cap = 0) : (if cap = q then A else A.map (·.add q)) = none → cap - q = 0 := fun h => by
  split at h
  · omega
  · cases A with
    | none => have := hz rfl; omega
    | some a => cases h
/-- A byte behind a row of one's own, however long. -/
theorem app_byteL {W : World} {base : Nat} {v : Value} {l : List Nat} {x B : Nat} (h : W.ownsRow base 5 1 v l.length (cellsB l)) (hx : W.cell? ⟨B, 0, none⟩ = some (.int .u8 (x : Nat))) (hl : l.length ≤ 2000000) (hb : base ≤ W.heap.size) :
    ∃ v' W1, (Builtin.append_ #[22, 22] 22 #[v, .slice (some ⟨B, 0, none⟩) 1 1]).run Try.prog W = .ok v' W1 ∧ W1.ownsRow base 5 1 v' (l ++ [x]).length (cellsB (l ++ [x])) ∧ W.grownBy W1 v.ownBlock := by
  obtain ⟨i0, hi, hz0, hz1, hz2⟩ := info_parts info8
  obtain ⟨v', W1, hr, ho, hg, hat⟩ := run_app (P := Try.prog) (w := W) base 22 22 5 i0 (.int .u8 0) 1 1 Try.underlying22 hi hz0 hz1 hz2 rfl (by omega) v l.length (cellsB l) h
    (some ⟨B, 0, none⟩) 1 1 [.int .u8 (x : Nat)] (by simp) rfl (fun _ => ⟨B, 0, rfl, fun j u hj => by
      match j, hj with
      | 0, hj => simp at hj; subst hj; exact hx
      | j + 1, hj => simp at hj⟩) (by intro u hu; simp at hu; subst hu; rfl) (by unfold maxLen; omega) (by omega) hb
  rw [← cellsB_snoc] at ho
  exact ⟨v', W1, hr, own_len (by simp) ho, hg⟩
end Go.Proofs.Ytkjlejkcedemlaa

namespace Go.Proofs.Ytkjlejkcedemlaa
set_option maxRecDepth 100000
set_option linter.unusedVariables false
open Go.ChangeShapes Go.WideShapes Go.ChangeAt Go.RowKit

def lenS : Value → Nat
  | .slice _ n _ => n
  | _ => 0
/-- What Blocks' loop has. -/
def BlR (w0 : World) (l : List Nat) (s0 s3 : Value) (rest out : List Nat) (w : World) : Prop :=
  (∃ Ar cr, s0 = .slice Ar rest.length cr ∧ rest.length ≤ cr ∧ cr ≤ maxLen ∧ (Ar = none → cr = 0) ∧ Byt w0 Ar rest.length (gz rest)) ∧ w.ownsRow w0.heap.size 5 1 s3 out.length (cellsB out) ∧ Below w0.heap.size w0 w ∧ out ++ blkF rest.length rest = blkF l.length l ∧ rest.length ≤ l.length
/-- A byte and a piece behind a row of one's own. -/
theorem app_blk {W : World} {base : Nat} {v : Value} {out rest : List Nat} {Ar : Option Addr} {cr m B : Nat} (h : W.ownsRow base 5 1 v out.length (cellsB out)) (hx : W.cell? ⟨B, 0, none⟩ = some (.int .u8 (m : Nat))) (ho : out.length ≤ 1000000) (hb : base ≤ W.heap.size)
    (hz : Ar = none → cr = 0) (hm : m ≤ rest.length) (hrl : rest.length ≤ 1000000) (hP : Byt W Ar rest.length (gz rest)) (hA : ∀ a, Ar = some a → a.block < base) :
    ∃ v1 W1 v2 W2, (Builtin.append_ #[22, 22] 22 #[v, .slice (some ⟨B, 0, none⟩) 1 1]).run Try.prog W = .ok v1 W1 ∧ (Builtin.append_ #[22, 22] 22 #[v1, .slice Ar m cr]).run Try.prog W1 = .ok v2 W2 ∧
      W2.ownsRow base 5 1 v2 (out ++ m :: rest.take m).length (cellsB (out ++ m :: rest.take m)) ∧ Below base W W2 := by
  obtain ⟨v1, W1, r1, o1, g1⟩ := app_byteL h hx (by omega) hb
  have b1 := bel_grown (Below.refl base W) g1 (fun r hr => (h.lt r hr).1) hb
  obtain ⟨i0, hi, hz0, hz1, hz2⟩ := info_parts info8
  have hP1 : Byt W1 Ar rest.length (gz rest) := fun hn => by
    obtain ⟨bk, off, rfl, hlt, hc⟩ := hP hn
    have hbk := hA _ rfl
    exact ⟨bk, off, rfl, Nat.lt_of_lt_of_le hlt b1.size, fun j hj => (b1.cell (p := ⟨bk, off + j, none⟩) hbk).trans (hc j hj)⟩
  have hs1 := b1.size
  obtain ⟨v2, W2, r2, o2, g2, _⟩ := run_app (P := Try.prog) (w := W1) base 22 22 5 i0 (.int .u8 0) 1 1 Try.underlying22 hi hz0 hz1 hz2 rfl (by omega) v1 (out ++ [m]).length (cellsB (out ++ [m])) o1
    Ar m cr (cellsB (rest.take m)) hz (by rw [cellsB_len, List.length_take]; omega) (fun hm0 => by
      obtain ⟨bk, off, rfl, hlt, hc⟩ := hP1 (by omega)
      refine ⟨bk, off, rfl, fun j u hj => ?_⟩
      have hjm : j < m := by
        have := (List.getElem?_eq_some_iff.1 hj).1
        rw [cellsB_len, List.length_take] at this
        omega
      rw [hc j (by omega)]
      unfold cellsB at hj
      rw [List.getElem?_map, List.getElem?_take, if_pos hjm, List.getElem?_eq_getElem (by omega)] at hj
      unfold gz
      rw [List.getElem?_eq_getElem (by omega)]
      exact hj) (cellsB_one _) (by unfold maxLen; simp; omega) (by simp; omega) (by omega)
  have e : cellsB (out ++ [m]) ++ cellsB (rest.take m) = cellsB (out ++ m :: rest.take m) := by simp [cellsB]
  rw [e] at o2
  refine ⟨v1, W1, v2, W2, r1, r2, own_len (by simp; omega) o2, bel_grown b1 g2 (fun r hr => (o1.lt r hr).1) (by omega)⟩
set_option maxRecDepth 100000 in
set_option maxHeartbeats 2000000 in
theorem blk_ref (A : Option Addr) (cap : Nat) (l : List Nat) (hl : ∀ v ∈ l, v < 256) (hn : l.length ≤ cap) (hmax : cap ≤ maxLen) (hz : A = none → cap = 0) (hsm : l.length ≤ 100000) (w : World) (hP : Byt w A l.length (gz l)) :
    Calls Try.prog 16 #[.slice A l.length cap] w fun e w' => ∃ A' cap', e = .returned (.slice A' (blkV l).length cap') ∧ NewB w.heap.size w' (blkV l).length A' cap' (gz (blkV l)) ∧ Below w.heap.size w w' := by
  have H0 : Hid (BlR w l (.slice A l.length cap) (.slice none 0 0) l [] w) := Lib.hid ⟨⟨A, cap, rfl, hn, hmax, hz, hP⟩, World.ownsRow_nil _ _ _ _, Below.refl _ _, by simp, Nat.le_refl _⟩
  have HL := Lib.hid hl
  clear hP hn hmax hz hl
  go_enter Try.func16, Try.ntmps16
  go_wp2_with fail
  go_loopw [0, 3] (fun s0 s3 wr => ∃ rest out, BlR w l s0 s3 rest out wr) (fun s0 _ _ => lenS s0)
  case atStart => exact ⟨l, [], H0.out⟩
  case round =>
    clear H0
    obtain ⟨rest, out, ⟨Ar, cr, rfl, q1, q2, q3, hP⟩, hown, hB, heq, hrl⟩ := hrel
    obtain ⟨-, Ao, co, rfl, p1, p2, -⟩ := Sl.of_own hown
    have hol : out.length ≤ 200000 := by
      have h1 := blkF_len l.length l
      have h2 := congrArg List.length heq
      rw [List.length_append] at h2
      omega
    by_cases hne : rest = []
    · subst hne
      rw [blkF_nil, List.append_nil] at heq
      obtain ⟨v2, w2, hr2, ho2, hg2⟩ := app_byteL (x := 0) (B := wr.heap.size) (hown.alloc (.cells #[.int .u8 0] 5)) (hp_cell (j := 0) (hp_new0 wr _) rfl) (by omega) (by have := hB.size; simp; omega)
      have hB2 := bel_grown (hB.alloc hB.size (.cells #[.int .u8 0] 5)) hg2 (fun r hr => (hown.lt r hr).1) (by have := hB.size; simp; omega)
      have hbv : out ++ [0] = blkV l := by rw [heq]; rfl
      rw [hbv] at ho2
      rw [← cells8_gz] at ho2
      obtain ⟨A2, c2, he2, hN2⟩ := NewB.of_own ho2
      subst he2
      have HR2 := Lib.hid hr2
      have HN2 := Lib.hid hN2
      have HB2 := Lib.hid hB2
      clear hr2 ho2 hg2 hB2 hbv hN2 heq hown hB hP
      go_wp2_with (at_builtin; refine wpList_app rfl _ _ 22 rfl _ _ _ _ rfl rfl HR2.out ?_)
      go_ret
      exact ⟨A2, c2, rfl, HN2.out, HB2.out⟩
    · have hp := List.length_pos_iff.2 hne
      obtain ⟨m, hm⟩ : ∃ m, m = min rest.length 255 := ⟨_, rfl⟩
      have hm1 : m ≤ rest.length := by omega
      have hm2 : m ≤ 255 := by omega
      have hm3 : 0 < m := by omega
      have hst := blkF_step (Nat.le_refl _) hne
      have htk : rest.take 255 = rest.take m := by
        rw [hm]
        by_cases hq : rest.length ≤ 255
        · rw [Nat.min_eq_left hq, List.take_of_length_le hq, List.take_length]
        · rw [Nat.min_eq_right (by omega)]
      have hdr : rest.drop 255 = rest.drop m := by
        rw [hm]
        by_cases hq : rest.length ≤ 255
        · rw [Nat.min_eq_left hq, List.drop_of_length_le hq, List.drop_of_length_le (Nat.le_refl _)]
        · rw [Nat.min_eq_right (by omega)]
      rw [htk, hdr, ← hm] at hst
      have hA : ∀ a, Ar = some a → a.block < w.heap.size := fun a ha => by
        obtain ⟨bk, off, he, hlt, _⟩ := hP hp
        rw [ha] at he
        injection he with he
        subst he
        exact hlt
      have hwm : Value.int .u8 (IntKind.u8.wrap (m : Int)) = .int .u8 ((m : Nat) : Int) := by rw [IntKind.wrap_u8']; congr 1; omega
      obtain ⟨v1, W1, v2, W2, r1, r2, o2, b2⟩ := app_blk (W := (wr.alloc (.cells #[.int .u8 (IntKind.u8.wrap (m : Int))] 5)).drew) (base := w.heap.size) (B := wr.heap.size) (m := m) (hown.alloc (.cells #[.int .u8 (IntKind.u8.wrap (m : Int))] 5)) ((hp_cell (j := 0) (hp_new0 wr _) rfl).trans (congrArg some hwm)) (by omega) (by have := hB.size; simp; omega) q3 hm1 (by omega) (hP.below ((hB.alloc hB.size (.cells #[.int .u8 (IntKind.u8.wrap (m : Int))] 5)).drew)) hA
      have hB2 := ((hB.alloc hB.size (.cells #[.int .u8 (IntKind.u8.wrap (m : Int))] 5)).drew).trans b2
      have hP2 := hP.from q1 (q := m) (k := rest.length - m) (by omega)
      have hgd : (fun i => gz rest (m + i)) = gz (rest.drop m) := by
        funext i
        unfold gz
        rw [List.getElem?_drop]
      rw [hgd] at hP2
      have hdl : (rest.drop m).length = rest.length - m := by rw [List.length_drop]
      have HNEW : Hid (BlR w l (.slice (if cr = m then Ar else Ar.map (·.add m)) (rest.length - m) (cr - m)) v2 (rest.drop m) (out ++ m :: rest.take m) W2) :=
        Lib.hid ⟨⟨_, _, by rw [hdl], by rw [hdl]; omega, by omega, nil_from q3, by rw [hdl]; exact hP2⟩, o2, hB2, by rw [← heq, hst]; simp, by rw [hdl]; omega⟩
      have HR1 := Lib.hid r1
      have HR2 := Lib.hid r2
      have RH := run_hi Ar rest.length cr m (by omega)
      have RL := run_lo Ar rest.length cr m (by omega)
      have hmin : min (rest.length : Int) 255 = (m : Int) := by rw [hm]; omega
      have hlen3 : Hid (rest.length - m < rest.length) := Lib.hid (by omega)
      obtain ⟨Z, hZ⟩ : ∃ Z, Z = (if cr = m then Ar else Ar.map (·.add m)) := ⟨_, rfl⟩
      rw [← hZ] at HNEW RL
      have t1 : decide ((0 : Int) < (rest.length : Int)) = true := by simp; omega
      have t2 : decide (0 < rest.length) = true := by simp; omega
      clear hwm hown hB heq hst htk hdr hm hA hP r1 r2 o2 b2 hB2 hP2 hgd hdl hZ
      go_upto_region 3 with fail
      go_cut [4] (fun s4 wx => s4 = .int .i64 (m : Nat) ∧ Hid (wx = wr))
      case first =>
        have HMIN := Lib.hid hmin
        clear hmin
        go_wp2
        all_goals
          go_meet
          exact ⟨by have := HMIN.out; first | rfl | (congr 1; omega), Lib.hid rfl⟩
      case rest =>
      obtain ⟨rfl, hwx⟩ := hcut
      have hwx' := hwx.out
      subst hwx'
      clear hwx
      go_wp2_with fail
      go_region_law (first | ((with_reducible refine step_app (o := ⟨some 15, _, _, _, _, _⟩) ?_ (.tmp 11) (.tmp 14) 22 ?_ _ _ _ _ ?_ ?_ HR1.out ?_); rfl; rfl; rfl; rfl) | ((with_reducible refine step_app (o := ⟨some 19, _, _, _, _, _⟩) ?_ (.tmp 15) (.tmp 18) 22 ?_ _ _ _ _ ?_ ?_ HR2.out ?_); rfl; rfl; rfl; rfl) | fail)
      all_goals
        go_wp2_with fail
        go_roundw
        case rel => exact ⟨_, _, HNEW.out⟩
        case measure => exact hlen3.out
end Go.Proofs.Ytkjlejkcedemlaa

namespace Go.Proofs.Ytkjlejkcedemlaa
set_option maxRecDepth 100000
set_option linter.unusedVariables false
open Go.ChangeShapes Go.WideShapes Go.ChangeAt Go.RowKit

/-- What Unblock's loop has. -/
def UnR (w0 : World) (b : Nat → Nat) (n : Nat) (r : List Nat × Nat × Nat) (s5 : Value) (out : List Nat) (at_ K : Nat) (w : World) : Prop :=
  w.ownsRow w0.heap.size 5 1 s5 out.length (cellsB out) ∧ Below w0.heap.size w0 w ∧ unF b n K at_ out = r ∧ at_ ≤ n ∧ out.length ≤ at_ ∧ n - at_ < K
theorem nilB (B : Nat) (w : World) : NewB B w ([] : List Nat).length none 0 (gz []) := ⟨Nat.le_refl _, by simp [maxLen], fun _ => rfl, fun h => absurd h (by simp), (fun a h => by cases h), (fun a h => by cases h), (fun a h => by cases h)⟩
/-- A piece of the bytes behind a row of one's own. -/
theorem app_cut {W w0 : World} {v : Value} {out : List Nat} {A : Option Addr} {n cap q m : Nat} {b : Nat → Nat} (h : W.ownsRow w0.heap.size 5 1 v out.length (cellsB out)) (hB : Below w0.heap.size w0 W) (ho : out.length ≤ 1000000) (hm : m ≤ 1000000) (hn : n ≤ cap) (hz : A = none → cap = 0) (hP : Byt w0 A n b) (hq : q + m ≤ n) :
    ∃ v2 W2, (Builtin.append_ #[22, 22] 22 #[v, .slice (if cap = q then A else A.map (·.add q)) m (cap - q)]).run Try.prog W = .ok v2 W2 ∧ W2.ownsRow w0.heap.size 5 1 v2 (out ++ (List.range m).map (fun i => b (q + i))).length (cellsB (out ++ (List.range m).map (fun i => b (q + i)))) ∧ Below w0.heap.size w0 W2 := by
  obtain ⟨i0, hi, hz0, hz1, hz2⟩ := info_parts info8
  have hP2 := (hP.below hB).from hn (q := q) (k := m) hq
  have hs := hB.size
  obtain ⟨v2, W2, r2, o2, g2, _⟩ := run_app (P := Try.prog) (w := W) w0.heap.size 22 22 5 i0 (.int .u8 0) 1 1 Try.underlying22 hi hz0 hz1 hz2 rfl (by omega) v out.length (cellsB out) h
    (if cap = q then A else A.map (·.add q)) m (cap - q) (cells8 m (fun i => b (q + i))) (nil_from hz) (by simp [cells8]) (byt_news hP2) (cells8_one _ _) (by unfold maxLen; omega) (by omega) (by omega)
  have e : cellsB out ++ cells8 m (fun i => b (q + i)) = cellsB (out ++ (List.range m).map (fun i => b (q + i))) := by simp [cellsB, cells8]
  rw [e] at o2
  exact ⟨v2, W2, r2, own_len (by simp) o2, bel_grown hB g2 (fun r hr => (h.lt r hr).1) hs⟩
set_option maxRecDepth 100000 in
set_option maxHeartbeats 2000000 in
theorem unb_prog (A : Option Addr) (n cap : Nat) (b : Nat → Nat) (hbt : ∀ i, b i < 256) (h1 : n ≤ cap) (h2 : cap ≤ maxLen) (h3 : A = none → cap = 0) (hn : n ≤ 1000000) (w : World) (hP : Byt w A n b) :
    Calls Try.prog 50 #[.slice A n cap] w fun e w' => ∃ A' cap', e = .returned (.tuple #[.slice A' (unV b n).1.length cap', .int .i64 ((unV b n).2.1 : Nat), .int .i64 ((unV b n).2.2 : Nat)]) ∧ NewB w.heap.size w' (unV b n).1.length A' cap' (gz (unV b n).1) ∧ Below w.heap.size w w' := by
  obtain ⟨r, hr⟩ : ∃ r, r = unV b n := ⟨_, rfl⟩
  rw [← hr]
  have H0 : Hid (UnR w b n r (.slice none 0 0) [] 0 (n + 1) w) := Lib.hid ⟨World.ownsRow_nil _ _ _ _, Below.refl _ _, hr.symm, by omega, by simp, by omega⟩
  have H2 := Lib.hid h2
  have H3 := Lib.hid h3
  have HP := Lib.hid hP
  unfold maxLen at h2
  clear hr hP h3
  go_enter Try.func50, Try.ntmps50
  go_wp2_with fail
  go_loopw [5, 6] (fun s5 s6 wr => ∃ (out : List Nat) (at_ K : Nat), s6 = .int .i64 (at_ : Nat) ∧ UnR w b n r s5 out at_ K wr) (fun _ s6 _ => n - (intOf s6).toNat)
  case atStart => exact ⟨[], 0, n + 1, rfl, H0.out⟩
  case round =>
    clear H0
    obtain ⟨out, at_, K, rfl, hown, hB, heq, hat, hol, hK⟩ := hrel
    obtain ⟨-, Ao, co, rfl, p1, p2, -⟩ := Sl.of_own hown
    obtain ⟨K, rfl⟩ : ∃ j, K = j + 1 := ⟨K - 1, by omega⟩
    rw [unF] at heq
    by_cases c1 : n ≤ at_
    · rw [if_pos c1] at heq
      obtain rfl : at_ = n := by omega
      subst heq
      have HB := Lib.hid hB
      clear hown hB
      go_wp2
      go_ret3
      exact ⟨none, 0, rfl, nilB _ _, HB.out⟩
    · rw [if_neg c1] at heq
      have hlt : at_ < n := by omega
      have t1 : decide (at_ < n) = true := by simp; omega
      have t1' : decide (n ≤ at_) = false := by simp; omega
      obtain ⟨bk, off, hAe, hbk, hc⟩ := HP.out.below hB (by omega)
      have hci := hc at_ hlt
      have hx256 := hbt at_
      obtain ⟨x, hx⟩ : ∃ x, x = b at_ := ⟨_, rfl⟩
      rw [← hx] at heq hci hx256
      by_cases c2 : x = 0
      · subst c2
        rw [if_pos rfl] at heq
        subst heq
        rw [← cells8_gz] at hown
        obtain ⟨A2, c2, he2, hN2⟩ := NewB.of_own hown
        injection he2 with e1 e2 e3
        subst e1 e3
        have HN2 := Lib.hid hN2
        have HB := Lib.hid hB
        subst hAe
        skip
        clear hown hB hN2 hx hc e2
        go_wp2
        go_ret3
        exact ⟨_, _, rfl, HN2.out, HB.out⟩
      · rw [if_neg c2] at heq
        have t2 : ((x : Int) == 0) = false := by simp; omega
        by_cases c3 : n - (at_ + 1) < x
        · rw [if_pos c3] at heq
          subst heq
          have HB := Lib.hid hB
          subst hAe
          have t3 : decide ((n : Int) - ((at_ : Int) + 1) < (x : Int)) = true := by simp; omega
          clear hown hB hx hc c2
          go_wp2
          go_ret3
          exact ⟨none, 0, rfl, nilB _ _, HB.out⟩
        · rw [if_neg c3] at heq
          obtain ⟨v2, W2, r2, o2, b2⟩ := app_cut (q := at_ + 1) (m := x) hown hB (by omega) (by omega) h1 H3.out HP.out (by omega)
          have RM := run_mid A n cap (at_ + 1) x (by omega)
          rw [show ((at_ + 1 : Nat) : Int) = (at_ : Int) + 1 by omega] at RM
          obtain ⟨Z, hZ⟩ : ∃ Z, Z = (if cap = at_ + 1 then A else A.map (·.add (at_ + 1))) := ⟨_, rfl⟩
          rw [← hZ] at RM r2
          subst hAe
          have HNEW : Hid (UnR w b n r v2 (out ++ (List.range x).map fun i => b (at_ + 1 + i)) (at_ + 1 + x) K W2) := Lib.hid ⟨o2, b2, by rw [hx] at heq ⊢; exact heq, by omega, by simp; omega, by omega⟩
          have HR2 := Lib.hid r2
          have hM : Hid (n - (at_ + 1 + x) < n - at_) := Lib.hid (by omega)
          have t3 : decide ((n : Int) - ((at_ : Int) + 1) < (x : Int)) = false := by simp; omega
          clear hown hB r2 o2 b2 hx hc heq hZ c2
          go_wp2_with (at_builtin; refine wpList_app rfl _ _ 22 rfl _ _ _ _ rfl rfl HR2.out ?_)
          go_roundw
          case rel => exact ⟨_, _, _, by go_num, HNEW.out⟩
          case measure => have := hM.out; simp [intOf]; omega
set_option maxRecDepth 100000 in
set_option maxHeartbeats 2000000 in
theorem unb_ref (A : Option Addr) (n cap : Nat) (b : Nat → Nat) (hbt : ∀ i, b i < 256) (h1 : n ≤ cap) (h2 : cap ≤ maxLen) (h3 : A = none → cap = 0) (hn : n ≤ 1000000) (w : World) (hP : Byt w A n b) :
    Calls Try.prog 28 #[.slice A n cap] w fun e w' => ∃ A' cap', e = .returned (.tuple #[.slice A' (unV b n).1.length cap', .int .i64 ((unV b n).2.1 : Nat), .int .i64 ((unV b n).2.2 : Nat)]) ∧ NewB w.heap.size w' (unV b n).1.length A' cap' (gz (unV b n).1) ∧ Below w.heap.size w w' := by
  obtain ⟨r, hr⟩ : ∃ r, r = unV b n := ⟨_, rfl⟩
  rw [← hr]
  have H0 : Hid (UnR w b n r (.slice none 0 0) [] 0 (n + 1) w) := Lib.hid ⟨World.ownsRow_nil _ _ _ _, Below.refl _ _, hr.symm, by omega, by simp, by omega⟩
  have H2 := Lib.hid h2
  have H3 := Lib.hid h3
  have HP := Lib.hid hP
  unfold maxLen at h2
  clear hr hP h3
  go_enter Try.func28, Try.ntmps28
  go_wp2_with fail
  go_loopw [5, 6] (fun s5 s6 wr => ∃ (out : List Nat) (at_ K : Nat), s6 = .int .i64 (at_ : Nat) ∧ UnR w b n r s5 out at_ K wr) (fun _ s6 _ => n - (intOf s6).toNat)
  case atStart => exact ⟨[], 0, n + 1, rfl, H0.out⟩
  case round =>
    clear H0
    obtain ⟨out, at_, K, rfl, hown, hB, heq, hat, hol, hK⟩ := hrel
    obtain ⟨-, Ao, co, rfl, p1, p2, -⟩ := Sl.of_own hown
    obtain ⟨K, rfl⟩ : ∃ j, K = j + 1 := ⟨K - 1, by omega⟩
    rw [unF] at heq
    by_cases c1 : n ≤ at_
    · rw [if_pos c1] at heq
      obtain rfl : at_ = n := by omega
      subst heq
      have HB := Lib.hid hB
      clear hown hB
      go_wp2
      go_ret3
      exact ⟨none, 0, rfl, nilB _ _, HB.out⟩
    · rw [if_neg c1] at heq
      have hlt : at_ < n := by omega
      have t1 : decide (at_ < n) = true := by simp; omega
      have t1' : decide (n ≤ at_) = false := by simp; omega
      obtain ⟨bk, off, hAe, hbk, hc⟩ := HP.out.below hB (by omega)
      have hci := hc at_ hlt
      have hx256 := hbt at_
      obtain ⟨x, hx⟩ : ∃ x, x = b at_ := ⟨_, rfl⟩
      rw [← hx] at heq hci hx256
      by_cases c2 : x = 0
      · subst c2
        rw [if_pos rfl] at heq
        subst heq
        rw [← cells8_gz] at hown
        obtain ⟨A2, c2, he2, hN2⟩ := NewB.of_own hown
        injection he2 with e1 e2 e3
        subst e1 e3
        have HN2 := Lib.hid hN2
        have HB := Lib.hid hB
        subst hAe
        have t3 : decide ((n : Int) - (at_ : Int) - 1 < 0) = false := by simp; omega
        clear hown hB hN2 hx hc e2
        go_wp2
        go_ret3
        exact ⟨_, _, rfl, HN2.out, HB.out⟩
      · rw [if_neg c2] at heq
        have t2 : ((x : Int) == 0) = false := by simp; omega
        by_cases c3 : n - (at_ + 1) < x
        · rw [if_pos c3] at heq
          subst heq
          have HB := Lib.hid hB
          subst hAe
          have t3 : decide ((n : Int) - (at_ : Int) - 1 < (x : Int)) = true := by simp; omega
          clear hown hB hx hc c2
          go_wp2
          go_ret3
          exact ⟨none, 0, rfl, nilB _ _, HB.out⟩
        · rw [if_neg c3] at heq
          obtain ⟨v2, W2, r2, o2, b2⟩ := app_cut (q := at_ + 1) (m := x) hown hB (by omega) (by omega) h1 H3.out HP.out (by omega)
          have RM := run_mid A n cap (at_ + 1) x (by omega)
          rw [show ((at_ + 1 : Nat) : Int) = (at_ : Int) + 1 by omega] at RM
          obtain ⟨Z, hZ⟩ : ∃ Z, Z = (if cap = at_ + 1 then A else A.map (·.add (at_ + 1))) := ⟨_, rfl⟩
          rw [← hZ] at RM r2
          subst hAe
          have HNEW : Hid (UnR w b n r v2 (out ++ (List.range x).map fun i => b (at_ + 1 + i)) (at_ + 1 + x) K W2) := Lib.hid ⟨o2, b2, by rw [hx] at heq ⊢; exact heq, by omega, by simp; omega, by omega⟩
          have HR2 := Lib.hid r2
          have hM : Hid (n - (at_ + 1 + x) < n - at_) := Lib.hid (by omega)
          have t3 : decide ((n : Int) - (at_ : Int) - 1 < (x : Int)) = false := by simp; omega
          clear hown hB r2 o2 b2 hx hc heq hZ c2
          go_wp2_with (at_builtin; refine wpList_app rfl _ _ 22 rfl _ _ _ _ rfl rfl HR2.out ?_)
          go_roundw
          case rel => exact ⟨_, _, _, by go_num, HNEW.out⟩
          case measure => have := hM.out; simp [intOf]; omega
end Go.Proofs.Ytkjlejkcedemlaa
