/- What gifwrite writes is read again by the document: the plain law. gifwrite.Encode. gifwrite.Encode: the walk. gifwrite.Encode refuses. Plain laws for a frame's drawing. -/
import Derived.Test.YtlgoohhfpmomhaaM14
import Derived.StillTailTactics
import Derived.Lib.SlBytesConst
import Derived.ArgAppend
namespace Go.Proofs.Ytlgoohhfpmomhaa
set_option maxRecDepth 100000
set_option linter.unusedVariables false

/-- A picture's file: its sides, the colours, which is clear, how many bits, the places. -/
def gifE (W H : Nat) (L : List P4) (cl : Int) (bb : Nat) (idx : List Nat) : List Nat :=
  ([71, 73, 70, 56, 57, 97] ++ (num2 W ++ num2 H) ++ [127 + bb, 0, 0]) ++ (tabR L (3 * 2 ^ bb) (3 * L.length) ++ ((if 0 ≤ cl then [33, 249, 4, 1, 0, 0, cl.toNat % 256, 0] else []) ++ (([44, 0, 0, 0, 0] ++ (num2 W ++ num2 H) ++ [0, max 2 bb]) ++ (blkV (lzwE (max 2 bb) idx) ++ [59]))))
theorem gz_at (pre suf : List Nat) (q k : Nat) (h : q = pre.length) : gz (pre ++ suf) (q + k) = gz suf k := by
  rw [h]
  exact gz_append_right pre suf k
theorem gz_at0 (pre suf : List Nat) (q : Nat) (h : q = pre.length) : gz (pre ++ suf) q = gz suf 0 := by
  have := gz_at pre suf q 0 h
  rwa [Nat.add_zero] at this
theorem low_two (d : Nat → Nat) (p : Nat) : lowD d p 2 = d p + 256 * d (p + 1) := by simp [lowD]
theorem num2_val {n : Nat} (h : n < 65536) : n % 256 + 256 * (n / 256 % 256) = n := by omega
/-- Places that are drawn whole. -/
theorem draw_all (W : Nat) (hW : 0 < W) (cols : List P4) (clear : Int) (c : Nat → Nat) (idx : List Nat)
    (hk : ∀ i, i < idx.length → ((gz idx i : Nat) : Int) ≠ clear → gz idx i < cols.length ∧ (cols[gz idx i]?).getD (0, 0, 0, 0) = p4 c i)
    (hc : ∀ i, i < idx.length → ((gz idx i : Nat) : Int) = clear → p4 c i = (0, 0, 0, 0)) :
    ∃ d, drawG W W 0 0 false (rowsG 0) cols clear idx 0 noP = some d ∧ ∀ t, t < 4 * idx.length → d t = c t := by
  have key : ∀ (ps : List Nat) (j : Nat) (e : Nat → Nat), ps = idx.drop j → j ≤ idx.length → (∀ t, t < 4 * j → e t = c t) → (∀ t, 4 * j ≤ t → e t = 0) → ∃ d, drawG W W 0 0 false (rowsG 0) cols clear ps j e = some d ∧ ∀ t, t < 4 * idx.length → d t = c t := by
    intro ps
    induction ps with
    | nil =>
      intro j e hps hj h1 _
      have hl := congrArg List.length hps
      rw [List.length_drop, List.length_nil] at hl
      exact ⟨e, rfl, fun t ht => h1 t (by omega)⟩
    | cons k ps ih =>
      intro j e hps hj h1 h2
      have hl := congrArg List.length hps
      rw [List.length_drop, List.length_cons] at hl
      have hjl : j < idx.length := by omega
      have hk0 : gz idx j = k := by
        have := congrArg (fun l => l[0]?) hps
        simp only [List.getElem?_cons_zero, List.getElem?_drop, Nat.add_zero] at this
        unfold gz
        rw [← this]
        rfl
      have hps2 : ps = idx.drop (j + 1) := by
        have := congrArg List.tail hps
        simpa [List.tail_drop] using this
      rw [drawG]
      by_cases hcl : (k : Int) = clear
      · rw [if_pos hcl]
        have hz := hc j hjl (by rw [hk0]; exact hcl)
        refine ih (j + 1) e hps2 (by omega) (fun t ht => ?_) (fun t ht => h2 t (by omega))
        by_cases h9 : t < 4 * j
        · exact h1 t h9
        · rw [h2 t (by omega)]
          unfold p4 at hz
          injection hz with z0 hz
          injection hz with z1 hz
          injection hz with z2 z3
          have : t = 4 * j ∨ t = 4 * j + 1 ∨ t = 4 * j + 2 ∨ t = 4 * j + 3 := by omega
          rcases this with rfl | rfl | rfl | rfl
          · exact z0.symm
          · exact z1.symm
          · exact z2.symm
          · exact z3.symm
      · rw [if_neg hcl]
        obtain ⟨g1, g2⟩ := hk j hjl (by rw [hk0]; exact hcl)
        rw [hk0] at g1 g2
        rw [if_neg (by omega), g2]
        have hpos : (0 + (if (false : Bool) = true then gz (rowsG 0) (j / W) else j / W)) * W + (0 + j % W) = j := by
          simp only [Bool.false_eq_true, if_false, Nat.zero_add]
          rw [Nat.mul_comm]
          exact Nat.div_add_mod j W
        rw [hpos]
        refine ih (j + 1) _ hps2 (by omega) (fun t ht => ?_) (fun t ht => ?_)
        · unfold setC p4
          by_cases e0 : t = 4 * j
          · rw [if_pos e0, e0]
          · rw [if_neg e0]
            by_cases e1 : t = 4 * j + 1
            · rw [if_pos e1, e1]
            · rw [if_neg e1]
              by_cases e2 : t = 4 * j + 2
              · rw [if_pos e2, e2]
              · rw [if_neg e2]
                by_cases e3 : t = 4 * j + 3
                · rw [if_pos e3, e3]
                · rw [if_neg e3]
                  exact h1 t (by omega)
        · unfold setC
          rw [if_neg (by omega), if_neg (by omega), if_neg (by omega), if_neg (by omega)]
          exact h2 t (by omega)
  exact key idx 0 noP (by simp) (by omega) (fun t ht => by omega) (fun t _ => rfl)
/-- A colour table that was written is read. -/
theorem tabC_get (L : List P4) (pre suf : List Nat) (M n j : Nat) (hp : 13 = pre.length) (hM : 3 * n ≤ M) (hL : L.length ≤ n) (hj : j < L.length)
    (h1 : ((L[j]?).getD (0, 0, 0, 0)).1 % 257 = 0) (h2 : ((L[j]?).getD (0, 0, 0, 0)).2.1 % 257 = 0) (h3 : ((L[j]?).getD (0, 0, 0, 0)).2.2.1 % 257 = 0) (h4 : ((L[j]?).getD (0, 0, 0, 0)).2.2.2 = 65535) :
    ((tabC (gz (pre ++ (tabR L M (3 * L.length) ++ suf))) 13 n)[j]?).getD (0, 0, 0, 0) = (L[j]?).getD (0, 0, 0, 0) := by
  have hg : ∀ k, k < 3 → gz (pre ++ (tabR L M (3 * L.length) ++ suf)) (13 + (3 * j + k)) = part4 ((L[j]?).getD (0, 0, 0, 0)) k / 257 := fun k hk => by
    rw [gz_at _ _ _ _ hp, gz_append_left (by rw [tabR_len]; omega)]
    unfold gz tabR
    rw [List.getElem?_map, List.getElem?_range (by omega)]
    simp only [Option.map_some, Option.getD_some]
    rw [if_pos (by omega)]
    unfold tbB
    rw [show (3 * j + k) / 3 = j by omega, show (3 * j + k) % 3 = k by omega]
  have g0 := hg 0 (by omega)
  have g1 := hg 1 (by omega)
  have g2 := hg 2 (by omega)
  unfold tabC
  rw [List.getElem?_map, List.getElem?_range (by omega)]
  simp only [Option.map_some, Option.getD_some]
  rw [show 13 + 3 * j = 13 + (3 * j + 0) by omega, g0, show 13 + (3 * j + 0) + 1 = 13 + (3 * j + 1) by omega, g1, show 13 + (3 * j + 0) + 2 = 13 + (3 * j + 2) by omega, g2]
  generalize (L[j]?).getD (0, 0, 0, 0) = q at *
  obtain ⟨a, b, c, d⟩ := q
  simp only [part4] at *
  simp only [Prod.mk.injEq]
  refine ⟨?_, ?_, ?_, h4.symm⟩
  · simp; omega
  · simp; omega
  · simp; omega
/-- What is asked of a picture's colours and places. -/
structure GifOk (W H : Nat) (c : Nat → Nat) (L : List P4) (cl : Int) (bb : Nat) (idx : List Nat) : Prop where
  w1 : 1 ≤ W
  w2 : W ≤ 256
  h1 : 1 ≤ H
  h2 : H ≤ 256
  n2 : W * H ≤ 16384
  b1 : 1 ≤ bb
  b2 : bb ≤ 8
  lb : L.length ≤ 2 ^ bb
  lx : idx.length = W * H
  ix : ∀ i, i < W * H → gz idx i < L.length ∧ (L[gz idx i]?).getD (0, 0, 0, 0) = p4 c i
  ci : ∀ j, j < L.length → ((j : Int) = cl ↔ (L[j]?).getD (0, 0, 0, 0) = (0, 0, 0, 0))
  cr : -1 ≤ cl ∧ cl < 256
  co : ∀ j, j < L.length → (L[j]?).getD (0, 0, 0, 0) ≠ (0, 0, 0, 0) → ((L[j]?).getD (0, 0, 0, 0)).1 % 257 = 0 ∧ ((L[j]?).getD (0, 0, 0, 0)).2.1 % 257 = 0 ∧ ((L[j]?).getD (0, 0, 0, 0)).2.2.1 % 257 = 0 ∧ ((L[j]?).getD (0, 0, 0, 0)).2.2.2 = 65535
section
variable {W H : Nat} {c : Nat → Nat} {L : List P4} {cl : Int} {bb : Nat} {idx : List Nat}
theorem GifOk.lt (h : GifOk W H c L cl bb idx) : ∀ v ∈ idx, v < 2 ^ max 2 bb := fun v hv => by
  obtain ⟨i, hi, rfl⟩ := List.mem_iff_getElem.1 hv
  have h1 := (h.ix i (by rw [← h.lx]; exact hi)).1
  have h2 := h.lb
  have h3 : 2 ^ bb ≤ 2 ^ max 2 bb := Nat.pow_le_pow_right (by omega) (by omega)
  unfold gz at h1
  rw [List.getElem?_eq_getElem hi, Option.getD_some] at h1
  omega
/-- The frame's own part. -/
theorem frame_back (h : GifOk W H c L cl bb idx) (pre : List Nat) (cols : List P4) (hcols : cols ≠ [])
    (hcc : ∀ j, j < L.length → (j : Int) ≠ cl → j < cols.length ∧ (cols[j]?).getD (0, 0, 0, 0) = (L[j]?).getD (0, 0, 0, 0)) (b : Nat → Nat) (n p : Nat)
    (hb : b = gz (pre ++ (([44, 0, 0, 0, 0] ++ (num2 W ++ num2 H) ++ [0, max 2 bb]) ++ (blkV (lzwE (max 2 bb) idx) ++ [59])))) (hn : n = (pre ++ (([44, 0, 0, 0, 0] ++ (num2 W ++ num2 H) ++ [0, max 2 bb]) ++ (blkV (lzwE (max 2 bb) idx) ++ [59]))).length) (hp : p = pre.length) :
    b p = 44 ∧ ∃ d, frameG b n (p + 1) W H cols cl = (d, 0) ∧ ∀ t, t < 4 * (W * H) → d t = c t := by
  have hw1 := h.w1
  have hw2 := h.w2
  have hh1 := h.h1
  have hh2 := h.h2
  have hb1 := h.b1
  have hb2 := h.b2
  have hg : ∀ k, b (p + k) = gz (([44, 0, 0, 0, 0] ++ (num2 W ++ num2 H) ++ [0, max 2 bb]) ++ (blkV (lzwE (max 2 bb) idx) ++ [59])) k := fun k => by rw [hb]; exact gz_at _ _ _ _ hp
  have hg0 : b p = 44 := by have := hg 0; rwa [Nat.add_zero] at this
  have f1 : ∀ k, b (p + 1 + k) = b (p + (1 + k)) := fun k => by rw [Nat.add_assoc]
  have e1 := hg 1
  have e2 := hg 2
  have e3 := hg 3
  have e4 := hg 4
  have e5 := hg 5
  have e6 := hg 6
  have e7 := hg 7
  have e8 := hg 8
  have e9 := hg 9
  have e10 := hg 10
  simp [gz, num2] at e1 e2 e3 e4 e5 e6 e7 e8 e9 e10
  have hlow : ∀ q, lowD b q 2 = b q + 256 * b (q + 1) := low_two b
  have l0 : lowD b (p + 1) 2 = 0 := by rw [hlow, e1, show p + 1 + 1 = p + 2 by omega, e2]
  have l1 : lowD b (p + 1 + 2) 2 = 0 := by rw [hlow, show p + 1 + 2 = p + 3 by omega, e3, show p + 3 + 1 = p + 4 by omega, e4]
  have l2 : lowD b (p + 1 + 4) 2 = W := by rw [hlow, show p + 1 + 4 = p + 5 by omega, e5, show p + 5 + 1 = p + 6 by omega, e6]; omega
  have l3 : lowD b (p + 1 + 6) 2 = H := by rw [hlow, show p + 1 + 6 = p + 7 by omega, e7, show p + 7 + 1 = p + 8 by omega, e8]; omega
  have l4 : b (p + 1 + 8) = 0 := by rw [show p + 1 + 8 = p + 9 by omega]; exact e9
  have l5 : b (p + 1 + 9) = max 2 bb := by rw [show p + 1 + 9 = p + 10 by omega]; exact e10
  obtain ⟨z, hz⟩ : ∃ z, z = lzwE (max 2 bb) idx := ⟨_, rfl⟩
  have hnl : n = p + 11 + (blkV z).length + 1 := by rw [hn, hz, hp]; simp [num2]; omega
  have hsuf : (fun i => b (p + 1 + 9 + 1 + i)) = gz (blkV z ++ [59]) := by
    funext i
    rw [show p + 1 + 9 + 1 + i = p + (11 + i) by omega, hg, hz]
    have : ([44, 0, 0, 0, 0] ++ (num2 W ++ num2 H) ++ [0, max 2 bb]).length = 11 := by simp [num2]
    exact gz_at _ _ 11 i this.symm
  have hun : unV (fun i => b (p + 1 + 9 + 1 + i)) (n - (p + 1 + 9 + 1)) = (z, (blkV z).length, 0) := by
    rw [hsuf, show n - (p + 1 + 9 + 1) = (blkV z ++ [59]).length by rw [hnl]; simp; omega]
    exact un_back z [59]
  have hlz : lzwV (gz z) z.length ((max 2 bb : Nat) : Int) ((W * H : Nat) : Int) = (idx, 0) := by
    rw [hz]
    exact back_E (max 2 bb) (by omega) (by omega) idx h.lt (W * H) (by rw [h.lx]; exact Nat.le_refl _)
  have hdr := draw_all W (by omega) cols cl c idx (fun i hi hne => by
      have hi' : i < W * H := by rw [← h.lx]; exact hi
      obtain ⟨g1, g2⟩ := h.ix i hi'
      obtain ⟨k1, k2⟩ := hcc _ g1 hne
      exact ⟨k1, k2.trans g2⟩) (fun i hi he => by
      have hi' : i < W * H := by rw [← h.lx]; exact hi
      obtain ⟨g1, g2⟩ := h.ix i hi'
      exact g2.symm.trans (((h.ci _ g1).1 he)))
  have hdr' : ∃ d, drawG W W 0 0 false (rowsG H) cols cl idx 0 noP = some d ∧ ∀ t, t < 4 * idx.length → d t = c t := by
    have same : ∀ (ps : List Nat) (j : Nat) (e : Nat → Nat), drawG W W 0 0 false (rowsG H) cols cl ps j e = drawG W W 0 0 false (rowsG 0) cols cl ps j e := by
      intro ps
      induction ps with
      | nil => intro j e; rfl
      | cons k ps ih =>
        intro j e
        rw [drawG, drawG]
        simp only [Bool.false_eq_true, if_false, ih]
    rw [same]
    exact hdr
  obtain ⟨d, hd1, hd2⟩ := hdr'
  refine ⟨hg0, d, ?_, fun t ht => hd2 t (by rw [h.lx]; exact ht)⟩
  unfold frameG
  rw [if_neg (by omega), l0, l1, l2, l3, l4, if_neg (by omega), if_neg (by simp)]
  unfold pixG
  rw [if_neg hcols, if_neg (by omega), l5, if_neg (by omega), hun]
  dsimp only
  rw [if_neg (by simp), hlz]
  dsimp only
  rw [if_neg (by simp), if_neg (by rw [h.lx]; omega)]
  have hfl : decide ((0 : Nat) / 64 % 2 = 1) = false := by decide
  rw [hfl, hd1]
theorem blk_four (x : Nat) : blkV [1, 0, 0, x] = [4, 1, 0, 0, x, 0] := by simp [blkV, blkF]
/-- A file that was written is read as its picture. -/
theorem gif_back (h : GifOk W H c L cl bb idx) (hsz : sizeE (W : Nat) (H : Nat) = 0) (b : Nat → Nat) (n : Nat) (hb : b = gz (gifE W H L cl bb idx)) (hn : n = (gifE W H L cl bb idx).length) :
    lowD b 6 2 = W ∧ lowD b 8 2 = H ∧ n ≤ 9 * W * H + 2048 ∧ ∃ d, gifG b n = (d, 0) ∧ ∀ t, t < 4 * (W * H) → d t = c t := by
  have hw1 := h.w1
  have hw2 := h.w2
  have hh1 := h.h1
  have hh2 := h.h2
  have hb1 := h.b1
  have hb2 := h.b2
  have hlb := h.lb
  obtain ⟨P, hP⟩ : ∃ P, P = 2 ^ bb := ⟨_, rfl⟩
  have hP1 : 2 ≤ P := by rw [hP]; exact Nat.pow_le_pow_right (n := 2) (i := 1) (by omega) hb1
  have hP2 : P ≤ 256 := by rw [hP]; exact Nat.pow_le_pow_right (n := 2) (j := 8) (by omega) hb2
  obtain ⟨N, hN⟩ : ∃ N, N = W * H := ⟨_, rfl⟩
  have hN2 : N ≤ 16384 := by rw [hN]; exact h.n2
  have hN9 : 9 * W * H = 9 * N := by rw [hN, Nat.mul_assoc]
  have hzl := size_E (max 2 bb) (by omega) (by omega) idx (fun v hv => by
    have h1 := h.lt v hv
    have h2 : 2 ^ max 2 bb ≤ 2 ^ 8 := Nat.pow_le_pow_right (by omega) (by omega)
    omega)
  rw [h.lx, ← hN] at hzl
  obtain ⟨H13, h13⟩ : ∃ l, l = [71, 73, 70, 56, 57, 97] ++ (num2 W ++ num2 H) ++ [127 + bb, 0, 0] := ⟨_, rfl⟩
  obtain ⟨T, hT⟩ : ∃ l, l = tabR L (3 * 2 ^ bb) (3 * L.length) := ⟨_, rfl⟩
  obtain ⟨E, hE⟩ : ∃ l : List Nat, l = if 0 ≤ cl then [33, 249, 4, 1, 0, 0, cl.toNat % 256, 0] else [] := ⟨_, rfl⟩
  obtain ⟨R, hR⟩ : ∃ l, l = ([44, 0, 0, 0, 0] ++ (num2 W ++ num2 H) ++ [0, max 2 bb]) ++ (blkV (lzwE (max 2 bb) idx) ++ [59]) := ⟨_, rfl⟩
  have hF : gifE W H L cl bb idx = H13 ++ (T ++ (E ++ R)) := by rw [h13, hT, hE, hR]; rfl
  have h13l : H13.length = 13 := by rw [h13]; simp [num2]
  have hTl : T.length = 3 * P := by rw [hT, tabR_len, hP]
  have hEl : E.length ≤ 8 := by rw [hE]; split <;> simp
  have hRl : R.length = 11 + (blkV (lzwE (max 2 bb) idx)).length + 1 := by rw [hR]; simp [num2]; omega
  have hbl := blkV_len (lzwE (max 2 bb) idx)
  have hnl : n = 13 + 3 * P + E.length + R.length := by rw [hn, hF]; simp [h13l, hTl]; omega
  have hbk : ∀ k, k < 13 → b k = gz H13 k := fun k hk => by rw [hb, hF]; exact gz_append_left (by omega)
  have e0 := hbk 0 (by omega)
  have e1 := hbk 1 (by omega)
  have e2 := hbk 2 (by omega)
  have e3 := hbk 3 (by omega)
  have e4 := hbk 4 (by omega)
  have e5 := hbk 5 (by omega)
  have e6 := hbk 6 (by omega)
  have e7 := hbk 7 (by omega)
  have e8 := hbk 8 (by omega)
  have e9 := hbk 9 (by omega)
  have e10 := hbk 10 (by omega)
  rw [h13] at e0 e1 e2 e3 e4 e5 e6 e7 e8 e9 e10
  simp [gz, num2] at e0 e1 e2 e3 e4 e5 e6 e7 e8 e9 e10
  have l6 : lowD b 6 2 = W := by rw [low_two, e6, e7]; omega
  have l8 : lowD b 8 2 = H := by rw [low_two, e8, e9]; omega
  refine ⟨l6, l8, by rw [hN9]; omega, ?_⟩
  have hgif : isGif b = true := by
    unfold isGif
    rw [e0, e1, e2, e3, e4, e5]
    decide
  have hcols : tabC b 13 P ≠ [] := fun e => by
    have := congrArg List.length e
    rw [tabC_len] at this
    simp at this
    omega
  have hcc : ∀ j, j < L.length → (j : Int) ≠ cl → j < (tabC b 13 P).length ∧ ((tabC b 13 P)[j]?).getD (0, 0, 0, 0) = (L[j]?).getD (0, 0, 0, 0) := fun j hj hne => by
    refine ⟨by rw [tabC_len]; omega, ?_⟩
    obtain ⟨k1, k2, k3, k4⟩ := h.co j hj (fun e => hne ((h.ci j hj).2 e))
    rw [hb, hF, hT]
    exact tabC_get L H13 (E ++ R) (3 * 2 ^ bb) P j h13l.symm (by omega) (by omega) hj k1 k2 k3 k4
  have hgo : gifG b n = partsG b n W H (tabC b 13 P) (n + 1) (13 + 3 * P) (-1) := by
    unfold gifG
    rw [if_neg (by omega), if_neg (by omega), if_neg (by rw [hgif]; simp), l6, l8, if_neg (by rw [hsz]; simp), if_pos (by omega)]
    have e : b 10 % 8 + 1 = bb := by omega
    rw [e, ← hP, if_neg (by omega)]
  rw [hgo, ← hN]
  by_cases hcl : 0 ≤ cl
  · have hE8 : E = [33, 249, 4, 1, 0, 0, cl.toNat % 256, 0] := by rw [hE, if_pos hcl]
    have hcr := h.cr
    obtain ⟨x, rfl⟩ : ∃ x : Nat, cl = x := Int.eq_ofNat_of_zero_le hcl
    have hx : (x : Int).toNat % 256 = x := by omega
    rw [hx] at hE8
    have hEl8 : E.length = 8 := by rw [hE8]; rfl
    have hpre : b = gz ((H13 ++ T) ++ (E ++ R)) := by rw [hb, hF, List.append_assoc]
    have hpl : (H13 ++ T).length = 13 + 3 * P := by rw [List.length_append, h13l, hTl]
    have q0 : b (13 + 3 * P) = 33 := by rw [hpre, gz_at0 _ _ _ hpl.symm, gz_append_left (by omega), hE8]; rfl
    have q1 : b (13 + 3 * P + 1) = 249 := by rw [hpre, gz_at _ _ _ _ hpl.symm, gz_append_left (by omega), hE8]; rfl
    have hun : unV (fun i => b (13 + 3 * P + 2 + i)) (n - (13 + 3 * P + 2)) = ([1, 0, 0, x], 6, 0) := by
      have hs : (fun i => b (13 + 3 * P + 2 + i)) = gz (blkV [1, 0, 0, x] ++ R) := by
        funext i
        rw [blk_four, hpre, show 13 + 3 * P + 2 + i = 13 + 3 * P + (2 + i) by omega, gz_at _ _ _ _ hpl.symm, hE8]
        exact gz_at [33, 249] ([4, 1, 0, 0, x, 0] ++ R) 2 i rfl
      have hl : n - (13 + 3 * P + 2) = (blkV [1, 0, 0, x] ++ R).length := by rw [blk_four, List.length_append, hnl, hEl8]; simp; omega
      rw [hs, hl, un_back, blk_four]
      rfl
    obtain ⟨hf, d, hd1, hd2⟩ := frame_back h (H13 ++ T ++ E) (tabC b 13 P) hcols hcc b n (13 + 3 * P + 2 + 6) (by rw [hb, hF, hR]; simp) (by rw [hn, hF, hR]; simp) (by rw [List.length_append, hpl, hEl8])
    refine ⟨d, ?_, fun t ht => hd2 t (by rw [← hN]; exact ht)⟩
    rw [partsG, if_neg (by omega), q0, if_neg (by omega), if_neg (by omega), if_neg (by omega), hun]
    dsimp only
    rw [if_neg (by simp), q1, if_pos rfl, if_neg (by simp)]
    obtain ⟨K, hK⟩ : ∃ K, n = K + 1 := ⟨n - 1, by omega⟩
    have hgx : (if gz [1, 0, 0, x] 0 % 2 = 1 then ((gz [1, 0, 0, x] 3 : Nat) : Int) else -1) = (x : Int) := by
      have a0 : gz [1, 0, 0, x] 0 = 1 := rfl
      have a3 : gz [1, 0, 0, x] 3 = x := rfl
      rw [a0, a3, if_pos (by omega)]
    rw [hgx]
    have : partsG b n W H (tabC b 13 P) n (13 + 3 * P + 2 + 6) (x : Int) = frameG b n (13 + 3 * P + 2 + 6 + 1) W H (tabC b 13 P) (x : Int) := by
      conv => lhs; arg 6; rw [hK]
      rw [partsG, if_neg (by omega), if_pos hf]
    rw [this, hd1]
  · have hE0 : E = [] := by rw [hE, if_neg hcl]
    have hcr := h.cr
    obtain rfl : cl = -1 := by omega
    have hEl0 : E.length = 0 := by rw [hE0]; rfl
    obtain ⟨hf, d, hd1, hd2⟩ := frame_back h (H13 ++ T) (tabC b 13 P) hcols hcc b n (13 + 3 * P) (by rw [hb, hF, hE0, hR]; simp) (by rw [hn, hF, hE0, hR]; simp) (by rw [List.length_append, h13l, hTl])
    refine ⟨d, ?_, fun t ht => hd2 t (by rw [← hN]; exact ht)⟩
    rw [partsG, if_neg (by omega), if_pos hf, hd1]
end
end Go.Proofs.Ytlgoohhfpmomhaa

namespace Go.Proofs.Ytlgoohhfpmomhaa
set_option maxRecDepth 100000
set_option linter.unusedVariables false
open Go.ChangeShapes Go.WideShapes Go.ChangeAt Go.RowKit

/-- Bytes behind a row of one's own. -/
theorem app_list {W : World} {base : Nat} {v : Value} {out l : List Nat} {A : Option Addr} {cap : Nat} (h : W.ownsRow base 5 1 v out.length (cellsB out)) (hb : base ≤ W.heap.size) (ho : out.length ≤ 1000000) (hl : l.length ≤ 1000000) (hz : A = none → cap = 0) (hP : Byt W A l.length (gz l)) :
    ∃ v2 W2, (Builtin.append_ #[32, 32] 32 #[v, .slice A l.length cap]).run Try.prog W = .ok v2 W2 ∧ W2.ownsRow base 5 1 v2 (out ++ l).length (cellsB (out ++ l)) ∧ Below base W W2 := by
  obtain ⟨i0, hi, hz0, hz1, hz2⟩ := info_parts info8
  obtain ⟨v2, W2, r2, o2, g2, _⟩ := run_app (P := Try.prog) (w := W) base 32 32 5 i0 (.int .u8 0) 1 1 Try.underlying32 hi hz0 hz1 hz2 rfl (by omega) v out.length (cellsB out) h
    A l.length cap (cells8 l.length (gz l)) hz (by simp [cells8]) (byt_news hP) (cells8_one _ _) (by unfold maxLen; omega) (by omega) hb
  have e : cellsB out ++ cells8 l.length (gz l) = cellsB (out ++ l) := by rw [cells8_gz]; simp [cellsB]
  rw [e] at o2
  exact ⟨v2, W2, r2, own_len (by simp) o2, bel_grown (Below.refl base W) g2 (fun r hr => (h.lt r hr).1) hb⟩
/-- The file as it is made. -/
def OutR (w0 : World) (v : Value) (out : List Nat) (w : World) : Prop := w.ownsRow w0.heap.size 5 1 v out.length (cellsB out) ∧ Below w0.heap.size w0 w
theorem OutR.old {w0 : World} {v : Value} {out : List Nat} {w : World} (h : OutR w0 v out w) (l : List Nat) {A : Option Addr} {cap : Nat} (ho : out.length ≤ 1000000) (hl : l.length ≤ 1000000) (hz : A = none → cap = 0) (hP : Byt w A l.length (gz l)) :
    ∃ v2 W2, (Builtin.append_ #[32, 32] 32 #[v, .slice A l.length cap]).run Try.prog w = .ok v2 W2 ∧ OutR w0 v2 (out ++ l) W2 := by
  obtain ⟨v2, W2, r, o, b⟩ := app_list h.1 h.2.size ho hl hz hP
  exact ⟨v2, W2, r, o, h.2.trans b⟩
theorem byt_cells {w : World} (l : List Nat) (cs : Array Value) (hcs : cs.toList = cellsB l) : Byt (w.alloc (.cells cs 5)) (some ⟨w.heap.size, 0, none⟩) l.length (gz l) := fun hn => by
  refine ⟨w.heap.size, 0, rfl, by simp, fun j hj => ?_⟩
  rw [Nat.zero_add]
  refine hp_cell (hp_new0 w _) ?_
  rw [← Array.getElem?_toList, hcs]
  unfold cellsB gz
  rw [List.getElem?_map, List.getElem?_eq_getElem hj]
  rfl
theorem OutR.new {w0 : World} {v : Value} {out : List Nat} {w : World} (h : OutR w0 v out w) (l : List Nat) (cs : Array Value) (hcs : cs.toList = cellsB l) (ho : out.length ≤ 1000000) (hl : l.length ≤ 1000) :
    ∃ v2 W2, (Builtin.append_ #[32, 32] 32 #[v, .slice (some ⟨w.heap.size, 0, none⟩) l.length l.length]).run Try.prog (w.alloc (.cells cs 5)) = .ok v2 W2 ∧ OutR w0 v2 (out ++ l) W2 := by
  have h2 : OutR w0 v out (w.alloc (.cells cs 5)) := ⟨h.1.alloc _, h.2.alloc h.2.size _⟩
  exact h2.old l ho (by omega) (by simp) (byt_cells l cs hcs)
theorem OutR.first {w0 w : World} (l : List Nat) (cs : Array Value) (hcs : cs.toList = cellsB l) (hl : l.length ≤ 1000) (hB : Below w0.heap.size w0 w) : OutR w0 (.slice (some ⟨w.heap.size, 0, none⟩) l.length l.length) l (w.alloc (.cells cs 5)) :=
  ⟨⟨by rw [cellsB_len, Nat.mul_one], .inr ⟨w.heap.size, l.length, cs, rfl, hB.size, hp_new0 w _, Nat.le_refl _, by unfold maxLen; omega, by rw [← Array.length_toList, hcs, cellsB_len]; omega, by rw [hcs, ← cellsB_len l, List.take_of_length_le]; simp [cellsB_len]⟩⟩, hB.alloc hB.size _⟩
def bbN (n : Nat) : Nat := (bitsV (n : Nat)).toNat
theorem bbN_facts (n : Nat) (h : n ≤ 256) : bitsV (n : Nat) = (bbN n : Int) ∧ 1 ≤ bbN n ∧ bbN n ≤ 8 ∧ n ≤ 2 ^ bbN n := by
  unfold bbN bitsV
  split
  · exact ⟨rfl, by decide, by decide, by show n ≤ 2; omega⟩
  · split
    · exact ⟨rfl, by decide, by decide, by show n ≤ 4; omega⟩
    · split
      · exact ⟨rfl, by decide, by decide, by show n ≤ 8; omega⟩
      · split
        · exact ⟨rfl, by decide, by decide, by show n ≤ 16; omega⟩
        · split
          · exact ⟨rfl, by decide, by decide, by show n ≤ 32; omega⟩
          · split
            · exact ⟨rfl, by decide, by decide, by show n ≤ 64; omega⟩
            · split
              · exact ⟨rfl, by decide, by decide, by show n ≤ 128; omega⟩
              · exact ⟨rfl, by decide, by decide, by show n ≤ 256; omega⟩
theorem clearIx_bd (L : List P4) (h : L.length ≤ 256) : -1 ≤ clearIx L ∧ clearIx L < 256 := by
  unfold clearIx
  split
  · have := List.idxOf_lt_length_of_mem ‹_›
    omega
  · omega
/-- A picture that goes into a GIF. -/
theorem gifok_of {W H : Nat} {c : Nat → Nat} (hc : ∀ i, c i < 65536) (hfit : fitsB (W : Nat) (H : Nat) (4 * (W * H)) c 2 = true) :
    sizeE (W : Nat) (H : Nat) = 0 ∧ GifOk W H c (U c (W * H)) (clearIx (U c (W * H))) (bbN (U c (W * H)).length) (pl c (W * H)) := by
  obtain ⟨hm, hok, h257, h256⟩ := fit_ok hc hfit
  have hs : sizeE (W : Nat) (H : Nat) = 0 := by
    unfold mayB at hm
    exact (of_decide_eq_true hm).1
  obtain ⟨s1, s2, s3, s4, s5⟩ := size_ok hs
  obtain ⟨b0, b1, b2, b3⟩ := bbN_facts _ h256
  have s5' : W * H ≤ 16384 := by
    have : ((W * H : Nat) : Int) = (W : Int) * (H : Int) := by simp
    omega
  refine ⟨hs, ⟨by omega, by omega, by omega, by omega, s5', b1, b2, b3, pl_len _ _, fun i hi => ?_, fun j hj => ?_, clearIx_bd _ h256, fun j hj hne => ?_⟩⟩
  · have e : gz (pl c (W * H)) i = (U c i).idxOf (p4 c i) := by
      unfold gz
      rw [pl_get hi]
      rfl
    rw [e]
    exact ⟨idx_lt hi, by rw [U_get hi]; rfl⟩
  · have hq : (U c (W * H))[j]? = some (U c (W * H))[j] := List.getElem?_eq_getElem hj
    rw [hq]
    exact clear_at (U_nodup c _) hq
  · have hq : (U c (W * H))[j]? = some (U c (W * H))[j] := List.getElem?_eq_getElem hj
    rw [hq] at hne ⊢
    simp only [Option.getD_some] at hne ⊢
    obtain ⟨i, hi, he⟩ := U_mem (List.getElem_mem hj)
    rw [he] at hne ⊢
    have h1 := h257 (4 * i) (by omega)
    have h2 := h257 (4 * i + 1) (by omega)
    have h3 := h257 (4 * i + 2) (by omega)
    have ho := hok i hi
    unfold okPix okB at ho
    refine ⟨h1, h2, h3, ?_⟩
    simp only [Bool.or_eq_true, beq_iff_eq, Bool.and_eq_true] at ho
    rcases ho with ho | ⟨z0, z1, z2, z3⟩
    · exact ho
    · exact absurd (by unfold p4; rw [z0, z1, z2, z3]) hne
end Go.Proofs.Ytlgoohhfpmomhaa

namespace Go.Proofs.Ytlgoohhfpmomhaa
set_option maxRecDepth 100000
set_option linter.unusedVariables false
open Go.ChangeShapes Go.WideShapes Go.ChangeAt Go.RowKit

theorem in64_nat {k : Nat} (h : k ≤ 1000000) : In64 (k : Int) := by unfold In64; omega
theorem byteL_cellsB {l : List Nat} (h : ∀ v ∈ l, v < 256) : byteL l = cellsB l := by
  unfold byteL cellsB
  apply List.map_congr_left
  intro v hv
  rw [Nat.mod_eq_of_lt (h v hv)]
set_option maxRecDepth 1000000 in
set_option maxHeartbeats 4000000 in
theorem enc_gif (W H : Nat) (bk off cap : Nat) (c : Nat → Nat) (hc : ∀ i, c i < 65536) (hfit : fitsB (W : Nat) (H : Nat) (4 * (W * H)) c 2 = true) (hcap : 4 * (W * H) ≤ cap) (hmax : cap ≤ maxLen) (w : World) (hbk : bk < w.heap.size) (hcells : ∀ j, j < 4 * (W * H) → w.cell? ⟨bk, off + j, none⟩ = some (.int .u16 (c j : Nat))) :
    Calls Try.prog 8 #[.agg #[.int .i64 (W : Nat), .int .i64 (H : Nat), .slice (some ⟨bk, off, none⟩) (4 * (W * H)) cap]] w fun e w' => ∃ A' cap', e = .returned (.tuple #[.slice A' (gifE W H (U c (W * H)) (clearIx (U c (W * H))) (bbN (U c (W * H)).length) (pl c (W * H))).length cap', .int .i64 0]) ∧ NewB w.heap.size w' (gifE W H (U c (W * H)) (clearIx (U c (W * H))) (bbN (U c (W * H)).length) (pl c (W * H))).length A' cap' (gz (gifE W H (U c (W * H)) (clearIx (U c (W * H))) (bbN (U c (W * H)).length) (pl c (W * H)))) ∧ Below w.heap.size w w' := by
  obtain ⟨hsz, hok⟩ := gifok_of hc hfit
  have hw1 := hok.w1
  have hw2 := hok.w2
  have hh1 := hok.h1
  have hh2 := hok.h2
  have hn2 := hok.n2
  have hb1 := hok.b1
  have hb2 := hok.b2
  have hlt := hok.lt
  have hcr := hok.cr
  obtain ⟨hm, hokp, h257, h256⟩ := fit_ok hc hfit
  have hbb := (bbN_facts _ h256).1
  have hlb := hok.lb
  obtain ⟨N, hN⟩ : ∃ N, N = W * H := ⟨_, rfl⟩
  rw [← hN] at hfit hcap hcells hn2 hok hlt hbb hcr h256 hlb hb1 hb2 ⊢
  rw [← hN] at hm h257 hokp
  have hN1 : 1 ≤ N := by rw [hN]; exact Nat.mul_pos (by omega) (by omega)
  have hpl256 : ∀ v ∈ pl c N, v < 256 := fun v hv => by
    have h1 := hlt v hv
    have h2 : 2 ^ max 2 (bbN (U c N).length) ≤ 2 ^ 8 := Nat.pow_le_pow_right (by omega) (by omega)
    omega
  have hw4 : ∀ p ∈ U c N, w4 p := fun p hp => by
    obtain ⟨i, _, rfl⟩ := U_mem hp
    exact w4_p4 hc i
  have ht257 : ∀ t, t < 3 * (U c N).length → part4 (((U c N)[t / 3]?).getD (0, 0, 0, 0)) (t % 3) % 257 = 0 := fun t ht => by
    have hq : (U c N)[t / 3]? = some (U c N)[t / 3] := List.getElem?_eq_getElem (by omega)
    rw [hq, Option.getD_some]
    obtain ⟨i, hi, he⟩ := U_mem (List.getElem_mem (l := U c N) (n := t / 3) (by omega))
    rw [he]
    have h3 : t % 3 = 0 ∨ t % 3 = 1 ∨ t % 3 = 2 := by omega
    rcases h3 with h | h | h <;> rw [h]
    · exact h257 (4 * i) (by omega)
    · exact h257 (4 * i + 1) (by omega)
    · exact h257 (4 * i + 2) (by omega)
  have k0 := hp_new0 w (.cells #[.int .i64 (W : Nat), .int .i64 (H : Nat), .slice (some ⟨bk, off, none⟩) (4 * N) cap] 27)
  have c0 := hp_cell (j := 0) k0 rfl
  have c1 := hp_cell (j := 1) k0 rfl
  have c2 := hp_cell (j := 2) k0 rfl
  have HB := Lib.hid ((Below.refl _ w).alloc (Nat.le_refl _) (.cells #[.int .i64 (W : Nat), .int .i64 (H : Nat), .slice (some ⟨bk, off, none⟩) (4 * N) cap] 27))
  have HMY := Lib.hid hm
  have HC := Lib.hid hc
  have HK := Lib.hid k0
  have HFIT := Lib.hid hfit
  have HCELLS := Lib.hid hcells
  have HT := Lib.hid ht257
  have HW4 := Lib.hid hw4
  have HPL := Lib.hid hpl256
  have HLT := Lib.hid hlt
  have HBB := Lib.hid hbb
  have HNN := Lib.hid hN
  have iW := in64_nat (k := W) (by omega)
  have iH := in64_nat (k := H) (by omega)
  have HMX := Lib.hid hmax
  obtain ⟨L, hL⟩ : ∃ L, L = U c N := ⟨_, rfl⟩
  rw [← hL] at HT HW4 HBB h256 hlb hb1 hb2 hcr ⊢
  obtain ⟨bb, hbbe⟩ : ∃ bb, bb = bbN L.length := ⟨_, rfl⟩
  rw [← hbbe] at HBB hlb hb1 hb2 ⊢
  rw [← hL, ← hbbe] at HLT
  obtain ⟨idx, hidx⟩ : ∃ idx, idx = pl c N := ⟨_, rfl⟩
  rw [← hidx] at HPL HLT ⊢
  obtain ⟨cl, hcl⟩ : ∃ cl, cl = clearIx L := ⟨_, rfl⟩
  rw [← hcl] at hcr ⊢
  have HLE := Lib.hid hL
  have HIE := Lib.hid hidx
  have HCE := Lib.hid hcl
  clear hsz hok hlt hm hokp h257 hbb hN hpl256 hw4 ht257 k0 hc hfit hcells hL hbbe hidx hcl hmax
  go_enter Try.func8, Try.ntmps8
  go_wp2_with fail
  refine (may_prog (W : Nat) (H : Nat) (some ⟨bk, off, none⟩) (4 * N) cap iW iH hcap HMX.out _).mono ?_
  rintro e w1 ⟨rfl, hB⟩
  rw [HMY.out]
  have HB1 := Lib.hid (HB.out.trans (hB.mono (by simp)))
  have hk1 := hp_below HK.out hB (by simp)
  have d0 := hp_cell (j := 0) hk1 rfl
  have d1 := hp_cell (j := 1) hk1 rfl
  have d2 := hp_cell (j := 2) hk1 rfl
  have HK1 := Lib.hid hk1
  clear hB hk1 c0 c1 c2
  go_wp2_with fail
  refine (make_yes (W : Nat) (H : Nat) bk off cap c HC.out N iW iH HFIT.out hN1 hn2 hcap HMX.out _ (Nat.lt_of_lt_of_le hbk HB1.out.size) (fun j hj => (HB1.out.cell hbk).trans (HCELLS.out j hj))).mono ?_
  rintro e w2 ⟨⟨v, u, rfl, hv, hu⟩, hB2⟩
  rw [← HLE.out, ← HCE.out]
  rw [← HLE.out] at hv
  rw [← HIE.out, byteL_cellsB HPL.out] at hu
  have hk2 := hp_below HK1.out hB2 (lt_heap HK1.out)
  have HB2 := Lib.hid (HB1.out.trans (hB2.mono HB1.out.size))
  have HV := Lib.hid hv
  have HU := Lib.hid hu
  obtain ⟨-, Av, cv, rfl, -, -, -⟩ := Sl.of_own hv
  obtain ⟨-, Au, cu, rfl, -, -, -⟩ := Sl.of_own hu
  have f0 := hp_cell (j := 0) hk2 rfl
  have f1 := hp_cell (j := 1) hk2 rfl
  have HK2 := Lib.hid hk2
  clear hB2 hv hu hk2 d0 d1 d2
  go_upto_region 6 with fail
  obtain ⟨wp, hwp⟩ : ∃ wp, wp = w2.alloc (.cells #[.slice Av L.length cv, .int .i64 cl] 52) := ⟨_, rfl⟩
  have hpb : wp.heap[w2.heap.size]? = some (.cells #[.slice Av L.length cv, .int .i64 cl] 52 (0, 0)) := by rw [hwp]; exact hp_new0 _ _
  have hBp : Below w2.heap.size w2 wp := by rw [hwp]; exact (Below.refl _ w2).alloc (Nat.le_refl _) _
  have hsp : wp.heap.size = w2.heap.size + 1 := by rw [hwp]; simp
  have g0 := (hBp.cell (lt_of_cell f0)).trans f0
  have g1 := (hBp.cell (lt_of_cell f1)).trans f1
  rw [← hwp]
  have HBp := Lib.hid hBp
  have HPB := Lib.hid hpb
  have HSP := Lib.hid hsp
  clear hwp hpb hBp hsp f0 f1
  go_cut [7] (fun s7 wx => ∃ As cs, s7 = .slice As 4 cs ∧ OutR wp s7 (num2 W ++ num2 H) wx)
  case first =>
    obtain ⟨x0, hx0⟩ : ∃ x, x = W % 256 := ⟨_, rfl⟩
    obtain ⟨x1, hx1⟩ : ∃ x, x = W / 256 % 256 := ⟨_, rfl⟩
    obtain ⟨y0, hy0⟩ : ∃ x, x = H % 256 := ⟨_, rfl⟩
    obtain ⟨y1, hy1⟩ : ∃ x, x = H / 256 % 256 := ⟨_, rfl⟩
    have hnW : num2 W = [x0, x1] := by rw [hx0, hx1]; rfl
    have hnH : num2 H = [y0, y1] := by rw [hy0, hy1]; rfl
    have NW := fun w => number_w W (by omega) w
    have NH := fun w => number_w H (by omega) w
    rw [← hx0, ← hx1] at NW
    rw [← hy0, ← hy1] at NH
    have o0 := OutR.first (w0 := wp) (w := wp) [x0, x1] #[.int .u8 (x0 : Nat), .int .u8 (x1 : Nat)] rfl (by simp) (Below.refl _ _)
    have o1 : OutR wp (.slice (some ⟨wp.heap.size, 0, none⟩) [x0, x1].length [x0, x1].length) [x0, x1] (((wp.alloc (.cells #[.int .u8 (x0 : Nat), .int .u8 (x1 : Nat)] 5)).alloc (.cells #[.int .u8 (y0 : Nat), .int .u8 (y1 : Nat)] 5)).drew) := ⟨o0.1.alloc _, (o0.2.alloc o0.2.size _).drew⟩
    have b1 := byt_cells (w := wp.alloc (.cells #[.int .u8 (x0 : Nat), .int .u8 (x1 : Nat)] 5)) [y0, y1] #[.int .u8 (y0 : Nat), .int .u8 (y1 : Nat)] rfl
    rw [show (wp.alloc (.cells #[.int .u8 (x0 : Nat), .int .u8 (x1 : Nat)] 5)).heap.size = wp.heap.size + 1 by simp] at b1
    obtain ⟨v7, w7, hrun, hout⟩ := o1.old [y0, y1] (cap := 2) (by simp) (by simp) (by simp) (b1.below (Below.refl _ _).drew)
    obtain ⟨-, As, cs7, rfl, -, -, -⟩ := Sl.of_own hout.1
    have HRUN := Lib.hid hrun
    have HOUT := Lib.hid hout
    have HOB : Hid (Below wp.heap.size wp w7) := Lib.hid hout.2
    have HNW := Lib.hid hnW
    have HNH := Lib.hid hnH
    have NWH := Lib.hid NW
    have NHH := Lib.hid NH
    clear o0 o1 b1 hrun hout hx0 hx1 hy0 hy1 hnW hnH NW NH
    have kk : wp.drew.cell? ⟨w.heap.size, 0, none⟩ = some (.int .i64 (W : Nat)) ∧ wp.drew.cell? ⟨w.heap.size, 1, none⟩ = some (.int .i64 (H : Nat)) := ⟨g0, g1⟩
    have hwlt : w.heap.size < wp.heap.size := by have := HBp.out.size; have := lt_heap HK2.out; omega
    have HKK := Lib.hid (show ∀ W', Below wp.heap.size wp W' → W'.cell? ⟨w.heap.size, 0, none⟩ = some (.int .i64 (W : Nat)) ∧ W'.cell? ⟨w.heap.size, 1, none⟩ = some (.int .i64 (H : Nat)) from fun W' hb => ⟨(hb.cell hwlt).trans g0, (hb.cell hwlt).trans g1⟩)
    go_region_held3 (fun w' => w'.cell? ⟨w.heap.size, 0, none⟩ = some (.int .i64 (W : Nat)) ∧ w'.cell? ⟨w.heap.size, 1, none⟩ = some (.int .i64 (H : Nat)))
      (first | with_reducible exact kk | (refine HKK.out _ ?_; repeat (first | with_reducible exact Below.refl _ _ | with_reducible exact HOB.out | with_reducible refine Below.drew ?_ | with_reducible refine Below.alloc ?_ (by simp; try omega) _)))
      (first
        | (go_at_call_of 20 (Value.int .i64 (W : Nat)); refine (NWH.out _).mono ?_; rintro e w8 ⟨rfl, rfl⟩)
        | (go_at_call_of 20 (Value.int .i64 (H : Nat)); refine (NHH.out _).mono ?_; rintro e w8 ⟨rfl, rfl⟩)
        | ((with_reducible refine step_app (o := ⟨some 30, _, _, _, _, _⟩) ?_ (.tmp 26) (.tmp 29) 32 ?_ _ _ _ _ ?_ ?_ HRUN.out ?_); rfl; rfl; rfl; rfl)
        | fail)
    all_goals
      go_wp2_with fail
      go_meet
      exact ⟨As, cs7, rfl, by rw [HNW.out, HNH.out]; exact HOUT.out⟩
  case rest =>
    obtain ⟨As, cs7, rfl, hO7⟩ := hcut
    obtain ⟨wq, hwq⟩ : ∃ wq, wq = wc := ⟨_, rfl⟩
    subst hwq
    obtain ⟨sd, hsd⟩ : ∃ sd, sd = num2 W ++ num2 H := ⟨_, rfl⟩
    have hsl : sd.length = 4 := by rw [hsd]; rfl
    rw [← hsd] at hO7
    have hBc := hO7.2
    obtain ⟨A7, c7, he7, q1, q2, q3, q4⟩ := byt_of_row hO7.1
    rw [hsl] at he7 q1
    injection he7 with z1 z2 z3
    subst z1 z3
    have HS4 := Lib.hid (show Byt wq As sd.length (gz sd) from q4)
    have HSN := Lib.hid q3
    have hpc := hp_below HPB.out hBc (lt_heap HPB.out)
    have p0 := hp_cell (j := 0) hpc rfl
    have p1 := hp_cell (j := 1) hpc rfl
    have HPC := Lib.hid hpc
    have HBC := Lib.hid (HB2.out.trans ((HBp.out.trans (hBc.mono HBp.out.size)).mono HB2.out.size))
    have HSD := Lib.hid hsd
    have HSL := Lib.hid hsl
    have HB2C := Lib.hid (HBp.out.trans (hBc.mono HBp.out.size))
    have hbbl : L.length ≤ 256 := h256
    have iL := in64_nat (k := L.length) (by omega)
    -- the mark
    obtain ⟨i0, hi0, hz0, hz1, hz2⟩ := info_parts info8
    obtain ⟨ba, oa, rfl, hba, hca⟩ := HS4.out (by omega)
    have u2 := Go.Lib.run_convert_bytes_const wq 32 5 #[.int .u8 71, .int .u8 73, .int .u8 70, .int .u8 56, .int .u8 57, .int .u8 97] 6 6 Try.underlying32 Try.underlying5
    have hBm : Below wq.heap.size wq (wq.alloc (.cells #[.int .u8 71, .int .u8 73, .int .u8 70, .int .u8 56, .int .u8 57, .int .u8 97] 5 (6, 7))) := (Below.refl _ wq).alloc (Nat.le_refl _) _
    have hnm : (wq.alloc (.cells #[.int .u8 71, .int .u8 73, .int .u8 70, .int .u8 56, .int .u8 57, .int .u8 97] 5 (6, 7))).heap[wq.heap.size]? = some (.cells #[.int .u8 71, .int .u8 73, .int .u8 70, .int .u8 56, .int .u8 57, .int .u8 97] 5 (6, 7)) := hp_new0 _ _
    obtain ⟨v8, w8, r8, ow8, g8⟩ := run_append_arg_grows (P := Try.prog) (wq.alloc (.cells #[.int .u8 71, .int .u8 73, .int .u8 70, .int .u8 56, .int .u8 57, .int .u8 97] 5 (6, 7))) 32 32 5 i0 (.int .u8 0) 1 1 Try.underlying32 hi0 hz0 hz1 hz2 rfl (by omega)
      ⟨wq.heap.size, 0, none⟩ 6 6 (cellsB [71, 73, 70, 56, 57, 97]) rfl (fun j u hj => by
        rw [Addr.add_lit, Nat.zero_add]
        rw [cell_of_row _ wq.heap.size j _ 5 (6, 7) hnm, ← Array.getElem?_toList]
        exact hj) ⟨ba, oa, none⟩ 4 cs7 (cellsB sd) (by rw [cellsB_len, hsl]) (fun j u hj => by
        rw [Addr.add_lit]
        have hjl := (List.getElem?_eq_some_iff.1 hj).1
        rw [cellsB_len] at hjl
        refine ((hBm.cell (p := ⟨ba, oa + j, none⟩) hba).trans (hca j hjl)).trans ?_
        rw [← hj]
        unfold cellsB gz
        rw [List.getElem?_map, List.getElem?_eq_getElem hjl]
        rfl) (by omega) (by unfold maxLen; omega) (by omega)
    have hcat : cellsB [71, 73, 70, 56, 57, 97] ++ cellsB sd = cellsB ([71, 73, 70, 56, 57, 97] ++ sd) := by simp [cellsB]
    rw [hcat] at ow8
    have hle8 : wq.heap.size ≤ (wq.alloc (.cells #[.int .u8 71, .int .u8 73, .int .u8 70, .int .u8 56, .int .u8 57, .int .u8 97] 5 (6, 7))).heap.size := hBm.size
    have ow9 := own_len (show 6 + 4 = ([71, 73, 70, 56, 57, 97] ++ sd).length by rw [List.length_append, hsl]; rfl) (own_le2 hle8 ow8)
    have o8 : OutR wq v8 ([71, 73, 70, 56, 57, 97] ++ sd) w8 := ⟨ow9, hBm.grown g8 hle8 (fun k e => by cases e)⟩
    have HR8 := Lib.hid r8
    -- the colours' bits
    have hor : bits BinOp.or IntKind.u8 128 ((bb : Int) - 1) = ((127 + bb : Nat) : Int) := by
      have h := u8_or_nat 128 (bb - 1) (by omega) (by omega)
      rw [show ((bb - 1 : Nat) : Int) = (bb : Int) - 1 by omega] at h
      refine h.trans ?_
      have : bb = 1 ∨ bb = 2 ∨ bb = 3 ∨ bb = 4 ∨ bb = 5 ∨ bb = 6 ∨ bb = 7 ∨ bb = 8 := by omega
      rcases this with rfl | rfl | rfl | rfl | rfl | rfl | rfl | rfl <;> rfl
    obtain ⟨v9, w9, r9, o9⟩ := o8.new [127 + bb, 0, 0] #[.int .u8 ((127 + bb : Nat) : Int), .int .u8 0, .int .u8 0] rfl (by rw [List.length_append, hsl]; simp) (by simp)
    have HR9 := Lib.hid r9
    have HO9 := Lib.hid o9
    have HOR := Lib.hid hor
    have hb1' : (0 : Int) ≤ (bb : Int) - 1 ∧ (bb : Int) - 1 ≤ 255 := by omega
    clear hO7 hBc q1 q2 q3 q4 z2 hpc hsd hsl r8 o8 r9 o9 hor hBm hnm ow8 ow9 hle8 hcat g8 hca hba
    go_wp2_with fail
    refine (bits_prog (L.length : Nat) iL _).mono ?_
    rintro e wx ⟨rfl, rfl⟩
    rw [HBB.out]
    have u1 := HOR.out
    go_wp2_with (at_builtin; first | ((with_reducible refine wpList_app (o := ⟨some 38, _, _, _, _, _⟩) ?_ (.tmp 36) (.tmp 37) 32 ?_ _ _ _ _ ?_ ?_ HR8.out ?_); rfl; rfl; rfl; rfl) | ((with_reducible refine wpList_app (o := ⟨some 45, _, _, _, _, _⟩) ?_ (.tmp 39) (.tmp 44) 32 ?_ _ _ _ _ ?_ ?_ HR9.out ?_); rfl; rfl; rfl; rfl))
    clear u1 u2 hb1'
    obtain ⟨P, hP⟩ : ∃ P, P = 2 ^ bb := ⟨_, rfl⟩
    have hP256 : P ≤ 256 := by rw [hP]; exact Nat.pow_le_pow_right (n := 2) (j := 8) (by omega) hb2
    have hLP : L.length ≤ P := by rw [hP]; exact hlb
    have HPW := Lib.hid (show wrap64 ((2 : Int) ^ bb) = (P : Int) by rw [wrap_pow bb (by omega), hP])
    have HPE := Lib.hid hP
    have HO9B : Hid (Below wq.heap.size wq w9) := Lib.hid HO9.out.2
    have hpl : w2.heap.size < wq.heap.size := lt_heap HPC.out
    have HKP := Lib.hid (show ∀ W', Below wq.heap.size wq W' → W'.cell? ⟨w2.heap.size, 0, none⟩ = some (.slice Av L.length cv) ∧ W'.cell? ⟨w2.heap.size, 1, none⟩ = some (.int .i64 cl) from fun W' hb => ⟨(hb.cell hpl).trans p0, (hb.cell hpl).trans p1⟩)
    obtain ⟨-, Av', cv', hev, e1, e2, e3⟩ := Sl.of_own HV.out
    injection hev with y1 y2 y3
    subst y1 y3
    have HPV := Lib.hid (show ∀ W', Below w2.heap.size w2 W' → 0 < L.length → ∃ bk off, Av = some ⟨bk, off, none⟩ ∧ bk < W'.heap.size ∧ ∀ j u, (cellsP L)[j]? = some u → W'.cell? ⟨bk, off + j, none⟩ = some u from fun W' hb hn => by
      obtain ⟨bk, off, rfl, hlt, hcl⟩ := e3 hn
      refine ⟨bk, off, rfl, Nat.lt_of_lt_of_le hlt hb.size, fun j u hj => ?_⟩
      have hjl := (List.getElem?_eq_some_iff.1 hj).1
      rw [cellsP_len] at hjl
      rw [(hb.cell (p := ⟨bk, off + j, none⟩) hlt).trans (hcl j hjl), hj])
    have HE1 := Lib.hid e1
    have HE2 := Lib.hid e2
    have hout9 : (([71, 73, 70, 56, 57, 97] ++ sd) ++ [127 + bb, 0, 0]).length = 13 := by rw [List.length_append, List.length_append, HSL.out]; rfl
    obtain ⟨O9, hO9⟩ : ∃ l, l = ([71, 73, 70, 56, 57, 97] ++ sd) ++ [127 + bb, 0, 0] := ⟨_, rfl⟩
    rw [← hO9] at HO9 hout9
    have HO9E := Lib.hid hO9
    have kd9 : Below wq.heap.size wq w9.drew := HO9B.out.drew
    have HKD := Lib.hid kd9
    clear e1 e2 e3 y2 hP hO9 p0 p1 kd9
    go_cut [9] (fun s9 wx => ∃ T, OutR wq s9 (O9 ++ tabR L (3 * P) (3 * L.length)) wx ∧ T = s9)
    case first =>
      have TAB : Calls Try.prog 22 #[.agg #[.slice Av L.length cv, .int .i64 cl], .int .i64 (P : Nat)] w9.drew fun e w10 => ∃ gt v11 w11, e = .returned (.slice (some ⟨gt, 0, none⟩) (3 * P) (3 * P)) ∧ Hid ((Builtin.append_ #[32, 32] 32 #[v9, .slice (some ⟨gt, 0, none⟩) (3 * P) (3 * P)]).run Try.prog w10 = .ok v11 w11) ∧ Hid (OutR wq v11 (O9 ++ tabR L (3 * P) (3 * L.length)) w11) ∧ Hid (Below wq.heap.size wq w10) ∧ Hid (Below wq.heap.size wq w11) := by
        refine (table_w Av cv cl L HW4.out HT.out P hLP hP256 HE1.out HE2.out w9.drew (HPV.out _ (HB2C.out.trans (HKD.out.mono HB2C.out.size)))).mono ?_
        rintro e w10 ⟨gt, rfl, hN10, hB10⟩
        have hB10c := HKD.out.trans (hB10.mono HKD.out.size)
        have o10 : OutR wq v9 O9 w10 := ⟨own_chg (own_chg HO9.out.1 ((Chg.refl [] w9).drew) (fun _ _ => by simp)) (Chg.of_below (S := []) hB10) (fun _ _ => by simp), hB10c⟩
        obtain ⟨v11, w11, r11, o11⟩ := o10.old (tabR L (3 * P) (3 * L.length)) (A := some ⟨gt, 0, none⟩) (cap := 3 * P) (by omega) (by rw [tabR_len]; omega) (by simp) (by rw [tabR_len]; exact hN10.byt)
        rw [tabR_len] at r11
        exact ⟨gt, v11, w11, rfl, Lib.hid r11, Lib.hid o11, Lib.hid hB10c, Lib.hid o11.2⟩
      have HTAB := Lib.hid TAB
      clear TAB
      have hpw : IntKind.i64.wrap ((2 : Int) ^ bb) = (P : Int) := by
        have e : (2 : Int) ^ bb = ((2 ^ bb : Nat) : Int) := by simp
        rw [e, ← HPE.out]
        exact IntWalk.i64_in _ (by omega)
      go_region_held3 (fun w' => w'.cell? ⟨w2.heap.size, 0, none⟩ = some (.slice Av L.length cv) ∧ w'.cell? ⟨w2.heap.size, 1, none⟩ = some (.int .i64 cl))
        (first | with_reducible exact HKP.out _ HKD.out | with_reducible exact HKP.out _ HB10.out | with_reducible exact HKP.out _ HB11.out)
        (first
          | (go_at_call 22; (with_reducible refine HTAB.out.mono ?_); rintro e w10 ⟨gt, v11, w11, rfl, HR11, HO11, HB10, HB11⟩)
          | ((with_reducible refine step_app (o := ⟨some 51, _, _, _, _, _⟩) ?_ (.tmp 46) (.tmp 50) 32 ?_ _ _ _ _ ?_ ?_ HR11.out ?_); rfl; rfl; rfl; rfl)
          | fail)
      go_wp2_with fail
      go_meet
      exact ⟨_, HO11.out, rfl⟩
    case rest =>
      obtain ⟨v11, hO11, rfl⟩ := hcut
      obtain ⟨O11, hO11e⟩ : ∃ l, l = O9 ++ tabR L (3 * P) (3 * L.length) := ⟨_, rfl⟩
      rw [← hO11e] at hO11
      have hl11 : O11.length ≤ 800 := by rw [hO11e, List.length_append, tabR_len, hout9]; omega
      have HO11E := Lib.hid hO11e
      obtain ⟨r0, r1⟩ := HKP.out _ hO11.2
      have HO11 := Lib.hid hO11
      clear hO11 hO11e
      go_upto_if 54 with fail
      go_cut [9] (fun s9 wx => OutR wq s9 (O11 ++ (if 0 ≤ cl then [33, 249, 4, 1, 0, 0, cl.toNat % 256, 0] else [])) wx)
      case first =>
        by_cases hcl0 : 0 ≤ cl
        · obtain ⟨x, rfl⟩ : ∃ x : Nat, cl = x := Int.eq_ofNat_of_zero_le hcl0
          have hx : (x : Int).toNat % 256 = x := by omega
          have hx2 : x ≤ 255 := by omega
          have t1 : decide ((0 : Int) ≤ (x : Int)) = true := by simp
          obtain ⟨v12, w12, r12, o12⟩ := HO11.out.new [33, 249, 4, 1, 0, 0, x, 0] #[.int .u8 33, .int .u8 249, .int .u8 4, .int .u8 1, .int .u8 0, .int .u8 0, .int .u8 (x : Nat), .int .u8 0] rfl (by omega) (by simp)
          have HR12 := Lib.hid r12
          have HO12 := Lib.hid o12
          clear r12 o12
          go_wp2_with (at_builtin; refine wpList_app rfl _ _ 32 rfl _ _ _ _ rfl rfl HR12.out ?_)
          go_meet
          rw [if_pos (show (0 : Int) ≤ (x : Int) by omega), hx]
          exact HO12.out
        · have t1 : decide ((0 : Int) ≤ cl) = false := by simp; omega
          go_wp2_with fail
          go_meet
          rw [if_neg (show ¬ 0 ≤ cl by omega), List.append_nil]
          exact HO11.out
      case rest =>
        have hO12 := hcut
        clear hcut
        obtain ⟨O12, hO12e⟩ : ∃ l, l = O11 ++ (if 0 ≤ cl then [33, 249, 4, 1, 0, 0, cl.toNat % 256, 0] else []) := ⟨_, rfl⟩
        rw [← hO12e] at hO12
        have hl12 : O12.length ≤ 900 := by
          rw [hO12e, List.length_append]
          split <;> simp <;> omega
        have HO12E := Lib.hid hO12e
        obtain ⟨v13, w13, r13, o13⟩ := hO12.new [44, 0, 0, 0, 0] #[.int .u8 44, .int .u8 0, .int .u8 0, .int .u8 0, .int .u8 0] rfl (by omega) (by simp)
        obtain ⟨v14, w14, r14, o14⟩ := o13.old sd (A := some ⟨ba, oa, none⟩) (cap := cs7) (by rw [List.length_append]; simp; omega) (by rw [HSL.out]; omega) (by simp) (HS4.out.below o13.2)
        rw [HSL.out] at r14
        have HR13 := Lib.hid r13
        have HR14 := Lib.hid r14
        have HO14 := Lib.hid o14
        clear hO12 hO12e r13 o13 r14 o14 r0 r1
        go_upto_region 15 with (at_builtin; first | ((with_reducible refine wpList_app (o := ⟨some 63, _, _, _, _, _⟩) ?_ (.tmp 61) (.tmp 62) 32 ?_ _ _ _ _ ?_ ?_ HR13.out ?_); rfl; rfl; rfl; rfl) | ((with_reducible refine wpList_app (o := ⟨some 66, _, _, _, _, _⟩) ?_ (.tmp 64) (.tmp 65) 32 ?_ _ _ _ _ ?_ ?_ HR14.out ?_); rfl; rfl; rfl; rfl))
        obtain ⟨sz, hsz⟩ : ∃ sz, sz = max 2 bb := ⟨_, rfl⟩
        have hsz1 : 2 ≤ sz ∧ sz ≤ 8 := by omega
        go_cut [10] (fun s10 wx => s10 = .int .i64 (sz : Nat) ∧ Hid (wx = w14))
        case first =>
          by_cases hb2' : 2 < bb
          · have t1 : decide (2 < bb) = true := by simp; omega
            have t2 : decide ((2 : Int) < (bb : Int)) = true := by simp; omega
            have e9 : sz = bb := by omega
            go_wp2
            all_goals
              go_meet
              exact ⟨by first | rfl | (congr 1; omega), Lib.hid rfl⟩
          · go_wp2
            all_goals
              go_meet
              exact ⟨by first | rfl | (congr 1; omega), Lib.hid rfl⟩
        case rest =>
          obtain ⟨rfl, hwx⟩ := hcut
          have hwx' := hwx.out
          subst hwx'
          clear hwx
          have hl14 : (O12 ++ [44, 0, 0, 0, 0] ++ sd).length ≤ 1000 := by rw [List.length_append, List.length_append, HSL.out]; simp; omega
          obtain ⟨O14, hO14e⟩ : ∃ l, l = O12 ++ [44, 0, 0, 0, 0] ++ sd := ⟨_, rfl⟩
          rw [← hO14e] at HO14 hl14
          have HO14E := Lib.hid hO14e
          obtain ⟨v16, w16, r16, o16⟩ := HO14.out.new [0, sz] #[.int .u8 0, .int .u8 (sz : Nat)] rfl (by omega) (by simp)
          have HR16 := Lib.hid r16
          have HO16 := Lib.hid o16
          have HB16 : Hid (Below wq.heap.size wq w16) := Lib.hid o16.2
          have hxl : idx.length = N := by rw [HIE.out]; exact pl_len _ _
          have HXL := Lib.hid hxl
          have hu1 := own_len hxl.symm HU.out
          obtain ⟨Au', cu', heu, m1, m2, m3, m4⟩ := byt_of_row hu1
          rw [hxl] at heu
          injection heu with y1 y2 y3
          subst y1 y3
          have HBU := Lib.hid (show Byt w16 Au idx.length (gz idx) from m4.below (HB2C.out.trans (HB16.out.mono HB2C.out.size)))
          have hi256 : ∀ i, gz idx i < 256 := gz_lt (fun v hv => HPL.out v hv)
          have hfz : fitsZ ((sz : Nat) : Int) idx.length (gz idx) = true := decide_eq_true ⟨by omega, fun j hj => by
            have h1 := HLT.out (gz idx j) (by unfold gz; rw [List.getElem?_eq_getElem hj]; exact List.getElem_mem hj)
            rw [← hsz] at h1
            simpa using h1⟩
          have hzl := size_E sz hsz1.1 hsz1.2 idx (fun v hv => HPL.out v hv)
          have HI256 := Lib.hid hi256
          have HFZ := Lib.hid hfz
          have HSZE := Lib.hid hsz
          clear r16 o16 hO14e hu1 m1 m2 m3 m4 y2 hi256 hfz hsz
          rw [hxl] at hzl
          clear hxl
          go_wp2_with (at_builtin; refine wpList_app rfl _ _ 32 rfl _ _ _ _ rfl rfl HR16.out ?_)
          have hcall := write_fit Au cu idx HI256.out sz (by rw [HXL.out]; omega) _ HBU.out HFZ.out
          rw [HXL.out] at hcall
          refine hcall.mono ?_
          rintro e w17 ⟨A17, c17, rfl, hN17, hB17⟩
          obtain ⟨z, hz⟩ : ∃ z, z = lzwE sz idx := ⟨_, rfl⟩
          rw [← hz] at hN17 hzl ⊢
          have HZ := Lib.hid hz
          have HN17 := Lib.hid hN17
          have ho17 : OutR wq v16 (O14 ++ [0, sz]) w17 := ⟨own_chg HO16.out.1 (Chg.of_below (S := []) hB17) (fun _ _ => by simp), HB16.out.trans (hB17.mono HB16.out.size)⟩
          have HO17 := Lib.hid ho17
          clear hcall hN17 hB17 ho17 hz HBU HR16 HO16
          go_wp2_with fail
          refine (blk_prog A17 c17 z (fun v hv => by
            obtain ⟨j, hj, rfl⟩ := List.mem_iff_getElem.1 hv
            have := lzwE_lt sz idx j
            rw [← HZ.out] at this
            unfold gz at this
            rw [List.getElem?_eq_getElem hj] at this
            exact this) HN17.out.le HN17.out.max HN17.out.nil (by omega) _ HN17.out.byt).mono ?_
          rintro e w18 ⟨A18, c18, rfl, hN18, hB18⟩
          have hbl := blkV_len z
          have o18 : OutR wq v16 (O14 ++ [0, sz]) w18 := ⟨own_chg HO17.out.1 (Chg.of_below (S := []) hB18) (fun _ _ => by simp), HO17.out.2.trans (hB18.mono HO17.out.2.size)⟩
          obtain ⟨v19, w19, r19, o19⟩ := o18.old (blkV z) (A := A18) (cap := c18) (by rw [List.length_append]; simp; omega) (by omega) hN18.nil hN18.byt
          obtain ⟨v20, w20, r20, o20⟩ := o19.new [59] #[.int .u8 59] rfl (by rw [List.length_append, List.length_append]; simp; omega) (by simp)
          have hall : O14 ++ [0, sz] ++ blkV z ++ [59] = gifE W H L cl bb idx := by
            rw [HO14E.out, HO12E.out, HO11E.out, HO9E.out, HSD.out, HZ.out, HPE.out, HSZE.out]
            unfold gifE
            simp
          rw [hall] at o20
          obtain ⟨o21, b21⟩ := o20
          rw [← cells8_gz] at o21
          obtain ⟨A20, c20, he20, hN20⟩ := NewB.of_own (own_le2 (b' := w.heap.size) (Nat.le_trans HB2.out.size HB2C.out.size) o21)
          subst he20
          have HR19 := Lib.hid r19
          have HR20 := Lib.hid r20
          have HN20 := Lib.hid hN20
          have HBE := Lib.hid (HB2.out.trans ((HB2C.out.trans (b21.mono HB2C.out.size)).mono HB2.out.size))
          clear hN18 hB18 o18 r19 o19 r20 hall o21 b21 hN20
          go_wp2_with (at_builtin; first | ((with_reducible refine wpList_app (o := ⟨some 83, _, _, _, _, _⟩) ?_ (.tmp 80) (.tmp 82) 32 ?_ _ _ _ _ ?_ ?_ HR19.out ?_); rfl; rfl; rfl; rfl) | ((with_reducible refine wpList_app (o := ⟨some 86, _, _, _, _, _⟩) ?_ (.tmp 84) (.tmp 85) 32 ?_ _ _ _ _ ?_ ?_ HR20.out ?_); rfl; rfl; rfl; rfl))
          go_ret2
          exact ⟨A20, c20, rfl, HN20.out, HBE.out⟩
end Go.Proofs.Ytlgoohhfpmomhaa

namespace Go.Proofs.Ytlgoohhfpmomhaa
set_option maxRecDepth 100000
set_option linter.unusedVariables false
open Go.ChangeShapes Go.WideShapes Go.ChangeAt Go.RowKit

set_option maxHeartbeats 1000000 in
theorem genc_arg (a b : Int) (A : Option Addr) (n cap : Nat) (c : Nat → Nat) (ha : In64 a) (hb : In64 b) (hn : n ≤ cap) (hmax : cap ≤ maxLen) (hm : mayB a b n = false) (w : World) (hP : Pix w A n c) :
    Calls Try.prog 8 #[.agg #[.int .i64 a, .int .i64 b, .slice A n cap]] w fun e w' => e = .returned (.tuple #[.slice none 0 0, .int .i64 1]) ∧ Below w.heap.size w w' := by
  have k0 := hp_new0 w (.cells #[.int .i64 a, .int .i64 b, .slice A n cap] 27)
  have c0 := hp_cell (j := 0) k0 rfl
  have c1 := hp_cell (j := 1) k0 rfl
  have c2 := hp_cell (j := 2) k0 rfl
  have HB := Lib.hid ((Below.refl _ w).alloc (Nat.le_refl _) (.cells #[.int .i64 a, .int .i64 b, .slice A n cap] 27))
  have HM := Lib.hid hm
  clear k0 hm
  go_enter Try.func8, Try.ntmps8
  go_wp2_with fail
  refine (may_prog a b A n cap ha hb hn hmax _).mono ?_
  rintro e w1 ⟨rfl, hB⟩
  rw [HM.out]
  have HB1 := Lib.hid (HB.out.trans (hB.mono (by simp)))
  clear hB
  go_wp2
  go_ret2
  exact ⟨rfl, HB1.out⟩
set_option maxHeartbeats 1000000 in
theorem genc_depth (a b : Int) (A : Option Addr) (n cap : Nat) (c : Nat → Nat) (hc : ∀ i, c i < 65536) (ha : In64 a) (hb : In64 b) (hn : n ≤ cap) (hmax : cap ≤ maxLen) (hm : mayB a b n = true) (hf : fitsB a b n c 2 = false) (w : World) (hP : Pix w A n c) :
    Calls Try.prog 8 #[.agg #[.int .i64 a, .int .i64 b, .slice A n cap]] w fun e w' => e = .returned (.tuple #[.slice none 0 0, .int .i64 8]) ∧ Below w.heap.size w w' := by
  have k0 := hp_new0 w (.cells #[.int .i64 a, .int .i64 b, .slice A n cap] 27)
  have c0 := hp_cell (j := 0) k0 rfl
  have c1 := hp_cell (j := 1) k0 rfl
  have c2 := hp_cell (j := 2) k0 rfl
  have HB := Lib.hid ((Below.refl _ w).alloc (Nat.le_refl _) (.cells #[.int .i64 a, .int .i64 b, .slice A n cap] 27))
  have HM := Lib.hid hm
  have HF := Lib.hid hf
  have HC := Lib.hid hc
  have HK := Lib.hid k0
  clear k0 hm hf hc
  go_enter Try.func8, Try.ntmps8
  go_wp2_with fail
  refine (may_prog a b A n cap ha hb hn hmax _).mono ?_
  rintro e w1 ⟨rfl, hB⟩
  rw [HM.out]
  have HB1 := Lib.hid (HB.out.trans (hB.mono (by simp)))
  have hk1 := hp_below HK.out hB (by simp)
  have d0 := hp_cell (j := 0) hk1 rfl
  have d1 := hp_cell (j := 1) hk1 rfl
  have d2 := hp_cell (j := 2) hk1 rfl
  clear hB hk1 c0 c1 c2
  go_wp2_with fail
  refine (make_no a b A n cap c HC.out ha hb HF.out hn hmax _ (hP.below HB1.out)).mono ?_
  rintro e w2 ⟨rfl, hB⟩
  have HB2 := Lib.hid (HB1.out.trans (hB.mono HB1.out.size))
  have HBA := Lib.hid (HB2.out.alloc HB2.out.size (.cells #[.slice none 0 0, .int .i64 0] 52))
  clear hB
  go_wp2
  go_ret2
  exact ⟨rfl, HBA.out⟩
end Go.Proofs.Ytlgoohhfpmomhaa

namespace Go.Proofs.Ytlgoohhfpmomhaa
set_option maxRecDepth 100000
set_option linter.unusedVariables false
open Go.ChangeShapes Go.WideShapes Go.ChangeAt Go.RowKit

theorem zeros_16 (n : Nat) : zeros n = cells16 n (fun _ => 0) := by
  have hl : (zeros n).length = n := by simp [zeros, madeCells]
  refine List.ext_getElem? (fun j => ?_)
  by_cases hj : j < n
  · rw [cells16_get n _ j hj]
    exact zeros_get n j hj
  · rw [List.getElem?_eq_none (by omega), List.getElem?_eq_none (by simp [cells16]; omega)]
theorem finC_lt (b : Nat → Nat) (n cl sz most : Nat) (k : Nat) : ∀ s : Cz, GoodC n cl sz s → ∀ v ∈ (finC b n cl sz most k s).1, v < 256 := by
  induction k with
  | zero => intro s _; simp [finC]
  | succ k ih =>
    intro s hs
    rw [finC]
    split
    · simp
    · rename_i h0
      split
      · exact ih _ (hs.reset (by omega))
      · rename_i h1
        split
        · exact hs.out
        · rename_i h2
          split
          · simp
          · rename_i h3
            split
            · simp
            · exact ih _ (hs.step (by omega) _ (takeL_lt12 _ _ hs.wd2) h1 h2 (by simpa using h3))
theorem lzwV_lt (b : Nat → Nat) (n : Nat) (size most : Int) : ∀ v ∈ (lzwV b n size most).1, v < 256 := by
  unfold lzwV
  split
  · simp
  · exact finC_lt _ _ _ _ _ _ _ (good0 n size.toNat (by omega) (by omega))
theorem drop_gz (l : List Nat) (i : Nat) (h : i < l.length) : l.drop i = gz l i :: l.drop (i + 1) := by
  rw [List.drop_eq_getElem_cons h]
  unfold gz
  rw [List.getElem?_eq_getElem h]
  rfl
theorem rowsG_len (h : Nat) (h1 : 1 ≤ h) : (rowsG h).length = h := by
  unfold rowsG stepG
  simp only [List.length_append, List.length_map, List.length_range]
  omega
theorem stepG_lt (h f s : Nat) (hs : 0 < s) (hb : f ≤ 4) : ∀ v ∈ stepG h f s, v < h := by
  intro v hv
  unfold stepG at hv
  rw [List.mem_map] at hv
  obtain ⟨i, hi, rfl⟩ := hv
  rw [List.mem_range] at hi
  have h1 : s * (i + 1) ≤ h - f + s - 1 := by
    have := (Nat.le_div_iff_mul_le hs).1 (show i + 1 ≤ _ from hi)
    rwa [Nat.mul_comm] at this
  rw [Nat.mul_add, Nat.mul_one] at h1
  omega
theorem rowsG_lt (h : Nat) : ∀ v ∈ rowsG h, v < h := by
  intro v hv
  unfold rowsG at hv
  simp only [List.mem_append] at hv
  rcases hv with ((hv | hv) | hv) | hv
  · exact stepG_lt h 0 8 (by omega) (by omega) v hv
  · exact stepG_lt h 4 8 (by omega) (by omega) v hv
  · exact stepG_lt h 2 4 (by omega) (by omega) v hv
  · exact stepG_lt h 1 2 (by omega) (by omega) v hv
theorem gz_mem {l : List Nat} {i : Nat} (h : i < l.length) : gz l i ∈ l := by
  unfold gz
  rw [List.getElem?_eq_getElem h, Option.getD_some]
  exact List.getElem_mem h
theorem cellsI_get (l : List Nat) (i : Nat) (h : i < l.length) : (cellsI l)[i]? = some (.int .i64 (gz l i : Nat)) := by
  unfold cellsI gz
  rw [List.getElem?_map, List.getElem?_eq_getElem h]
  rfl
end Go.Proofs.Ytlgoohhfpmomhaa
