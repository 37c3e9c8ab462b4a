/- Places of few bits: the file's bytes, and what decoding it draws. -/
import Derived.Test.YtdooefnckdklmaaDoorM20

namespace Go.Proofs.YtdooefnckdklmaaDoor
set_option maxRecDepth 100000
set_option linter.unusedVariables false
open Go.ChangeShapes Go.WideShapes Go.ChangeAt Go.RowKit

/-- A number of few bits, read from the highest on: one byte has it. -/
theorem takeH_one (b : Nat → Nat) (hb : ∀ i, b i < 256) (bits q : Nat) (h : bits = 1 ∨ bits = 4 ∨ bits = 8) : takeH b (q * bits) bits = b (q * bits / 8) / 2 ^ (8 - bits - q * bits % 8) % 2 ^ bits := by
  rcases h with rfl | rfl | rfl
  · rw [takeH, takeH, bitH, Nat.mul_one, Nat.add_zero, show 8 - 1 - q % 8 = 7 - q % 8 from rfl]
    omega
  · obtain ⟨p, hp⟩ : ∃ p, p = q * 4 := ⟨_, rfl⟩
    rw [← hp]
    have h0 := hb (p / 8)
    simp only [takeH, bitH]
    have e0 : (p + 0) / 8 = p / 8 := by omega
    have e1 : (p + 1) / 8 = p / 8 := by omega
    have e2 : (p + 2) / 8 = p / 8 := by omega
    have e3 : (p + 3) / 8 = p / 8 := by omega
    rw [e0, e1, e2, e3]
    have k : p % 8 = 0 ∨ p % 8 = 4 := by omega
    generalize b (p / 8) = x at *
    rcases k with k | k
    · rw [show (p + 0) % 8 = 0 by omega, show (p + 1) % 8 = 1 by omega, show (p + 2) % 8 = 2 by omega, show (p + 3) % 8 = 3 by omega, k]
      simp only [Nat.reduceSub, Nat.reducePow]
      omega
    · rw [show (p + 0) % 8 = 4 by omega, show (p + 1) % 8 = 5 by omega, show (p + 2) % 8 = 6 by omega, show (p + 3) % 8 = 7 by omega, k]
      simp only [Nat.reduceSub, Nat.reducePow]
      omega
  · have h0 := hb q
    simp only [takeH, bitH]
    have e0 : (q * 8 + 0) / 8 = q := by omega
    have e1 : (q * 8 + 1) / 8 = q := by omega
    have e2 : (q * 8 + 2) / 8 = q := by omega
    have e3 : (q * 8 + 3) / 8 = q := by omega
    have e4 : (q * 8 + 4) / 8 = q := by omega
    have e5 : (q * 8 + 5) / 8 = q := by omega
    have e6 : (q * 8 + 6) / 8 = q := by omega
    have e7 : (q * 8 + 7) / 8 = q := by omega
    rw [e0, e1, e2, e3, e4, e5, e6, e7, show q * 8 / 8 = q by omega, show (q * 8 + 0) % 8 = 0 by omega, show (q * 8 + 1) % 8 = 1 by omega, show (q * 8 + 2) % 8 = 2 by omega, show (q * 8 + 3) % 8 = 3 by omega, show (q * 8 + 4) % 8 = 4 by omega, show (q * 8 + 5) % 8 = 5 by omega, show (q * 8 + 6) % 8 = 6 by omega, show (q * 8 + 7) % 8 = 7 by omega, show q * 8 % 8 = 0 by omega]
    simp only [Nat.reduceSub, Nat.reducePow]
    generalize b q = x at h0 ⊢
    clear hb e0 e1 e2 e3 e4 e5 e6 e7
    revert h0
    revert x
    decide +kernel
theorem lowD_free (ps : List (Nat × Nat)) (x : Nat) (h : ∀ q ∈ ps, x < q.1 ∨ q.1 + 4 ≤ x) : hF ps x = F0 x := by
  unfold hF
  have key : ∀ (r : List (Nat × Nat)) (g : Nat → Nat), (∀ q ∈ r, x < q.1 ∨ q.1 + 4 ≤ x) → (r.foldl (fun f p => putK f p.1 p.2 4) g) x = g x := by
    intro r
    induction r with
    | nil => intro g _; rfl
    | cons q r ih =>
      intro g h
      rw [List.foldl_cons, ih _ (fun q' hq' => h q' (List.mem_cons_of_mem _ hq'))]
      have := h q (List.mem_cons_self ..)
      rw [putK, if_neg (by omega)]
  exact key ps F0 h
def psS (W bits many gap hn : Nat) : List (Nat × Nat) := [(10, 54 + 4 * many + gap), (14, 40), (18, W), (22, hn), (26, 1 + bits * 65536), (46, many)]
/-- The bits of a row. -/
def bitsS (bits : Nat) (K : Nat → Nat) : Nat → List Nat
  | 0 => []
  | x + 1 => bitsS bits K x ++ numB true (K x : Nat) bits
theorem bitsS_len (bits : Nat) (K : Nat → Nat) : ∀ x, (bitsS bits K x).length = x * bits
  | 0 => by simp [bitsS]
  | x + 1 => by rw [bitsS, List.length_append, bitsS_len bits K x, numB_len, Nat.add_mul, Nat.one_mul]
theorem bitsS_lt (bits : Nat) (K : Nat → Nat) : ∀ x, ∀ v ∈ bitsS bits K x, v < 2
  | 0, v, h => by cases h
  | x + 1, v, h => by
    rw [bitsS] at h
    rcases List.mem_append.1 h with h | h
    · exact bitsS_lt bits K x v h
    · exact numB_lt _ _ _ v h
theorem bitsS_get (bits : Nat) (K : Nat → Nat) : ∀ n x j, x < n → j < bits → (bitsS bits K n)[x * bits + j]? = some (bitX (K x : Nat) (bits - 1 - j))
  | 0, x, j, h, _ => absurd h (by omega)
  | n + 1, x, j, h, hj => by
    have hl := bitsS_len bits K n
    rw [bitsS]
    by_cases hx : x = n
    · subst hx
      rw [List.getElem?_append_right (by omega), hl, Nat.add_sub_cancel_left, numB_get _ _ _ _ hj, if_pos rfl]
    · have h1 : x * bits + bits ≤ n * bits := by
        have := Nat.mul_le_mul_right bits (show x + 1 ≤ n by omega)
        rwa [Nat.add_mul, Nat.one_mul] at this
      rw [List.getElem?_append_left (by omega)]
      exact bitsS_get bits K n x j (by omega) hj
def padS (l : List Nat) : List Nat := l ++ List.replicate ((4 - l.length % 4) % 4) 255
def rowS (bits W : Nat) (K : Nat → Nat) : List Nat := padS (pack true (bitsS bits K W)).1
theorem rowS_len (bits W : Nat) (K : Nat → Nat) : (rowS bits W K).length = bmWide W bits := by
  rw [rowS, padS, List.length_append, List.length_replicate, pack_len, bitsS_len, bmWide]
  generalize W * bits = X
  omega
theorem rowS_lt (bits W : Nat) (K : Nat → Nat) : ∀ v ∈ rowS bits W K, v < 256 := by
  intro v hv
  rcases List.mem_append.1 hv with h | h
  · exact pack_lt' _ _ (bitsS_lt bits K W) v h
  · rw [(List.mem_replicate.1 h).2]
    omega
/-- A place of a row. -/
theorem rowS_place (bits W : Nat) (K : Nat → Nat) (hbits : bits = 1 ∨ bits = 4 ∨ bits = 8) (x : Nat) (hx : x < W) (hK : K x < 2 ^ bits) : gl (rowS bits W K) (x * bits / 8) / 2 ^ (8 - bits - x * bits % 8) % 2 ^ bits = K x := by
  have hlt := bitsS_lt bits K W
  have hlen := bitsS_len bits K W
  obtain ⟨b, hb⟩ : ∃ b : Nat → Nat, b = fun i => ((pack true (bitsS bits K W)).1[i]?).getD 0 := ⟨_, rfl⟩
  have hx1 : x * bits + bits ≤ W * bits := by
    have := Nat.mul_le_mul_right bits (show x + 1 ≤ W by omega)
    rwa [Nat.add_mul, Nat.one_mul] at this
  have hbt : ∀ j, j < bits → bitH b (x * bits + j) = bitX (K x : Nat) (bits - 1 - j) := fun j hj => by
    have h1 := pack_get true (bitsS bits K W) hlt (x * bits + j) (by omega)
    rw [← hb] at h1
    have h2 := bitsS_get bits K W x j hx hj
    rw [List.getElem?_eq_getElem (by omega)] at h2
    injection h2 with h2
    rw [h2] at h1
    simpa [bitB] using h1
  have h1 := takeH_num' b (x * bits) (K x : Nat) bits hbt
  have hb8 : ∀ i, b i < 256 := fun i => by
    rw [hb]
    exact getD_lt (pack_lt' _ _ hlt) i
  rw [takeH_one b hb8 bits x hbits] at h1
  have h3 : ((K x : Nat) : Int) % 2 ^ bits = ((K x : Nat) : Int) := by
    have : ((2 : Int) ^ bits) = ((2 ^ bits : Nat) : Int) := by simp
    rw [this]
    exact Int.emod_eq_of_lt (by omega) (by exact_mod_cast hK)
  rw [h3] at h1
  have h4 : gl (rowS bits W K) (x * bits / 8) = b (x * bits / 8) := by
    have hl8 : x * bits / 8 < (pack true (bitsS bits K W)).1.length := by
      rw [pack_len, hlen]
      have : 1 ≤ bits := by omega
      omega
    rw [rowS, padS, gl_1 hl8, hb]
    rfl
  rw [h4]
  exact_mod_cast h1
def rowsS (bits W : Nat) (K : Nat → Nat → Nat) : Nat → List Nat
  | 0 => []
  | y + 1 => rowsS bits W K y ++ rowS bits W (K y)
theorem rowsS_len (bits W : Nat) (K : Nat → Nat → Nat) : ∀ y, (rowsS bits W K y).length = y * bmWide W bits
  | 0 => by simp [rowsS]
  | y + 1 => by rw [rowsS, List.length_append, rowsS_len bits W K y, rowS_len, Nat.add_mul, Nat.one_mul]
theorem rowsS_lt (bits W : Nat) (K : Nat → Nat → Nat) : ∀ y, ∀ v ∈ rowsS bits W K y, v < 256
  | 0, v, h => by cases h
  | y + 1, v, h => by
    rcases List.mem_append.1 h with h | h
    · exact rowsS_lt bits W K y v h
    · exact rowS_lt _ _ _ v h
theorem rowsS_get (bits W : Nat) (K : Nat → Nat → Nat) : ∀ n y j, y < n → j < bmWide W bits → gl (rowsS bits W K n) (y * bmWide W bits + j) = gl (rowS bits W (K y)) j
  | 0, y, j, h, _ => absurd h (by omega)
  | n + 1, y, j, h, hj => by
    have hl := rowsS_len bits W K n
    rw [rowsS]
    by_cases hy : y = n
    · subst hy
      have h1 := gl_2 (rowsS bits W K y) (rowS bits W (K y)) j
      rw [hl] at h1
      exact h1
    · have h1 : y * bmWide W bits + bmWide W bits ≤ n * bmWide W bits := by
        have := Nat.mul_le_mul_right (bmWide W bits) (show y + 1 ≤ n by omega)
        rwa [Nat.add_mul, Nat.one_mul] at this
      rw [gl_1 (by omega)]
      exact rowsS_get bits W K n y j (by omega) hj
def colS : Nat → List Nat
  | 0 => []
  | i + 1 => colS i ++ [3 * i + 1, 3 * i + 2, 3 * i + 3, 9]
theorem colS_len : ∀ i, (colS i).length = 4 * i
  | 0 => rfl
  | i + 1 => by rw [colS, List.length_append, colS_len i]; simp; omega
theorem colS_lt : ∀ n, n ≤ 16 → ∀ v ∈ colS n, v < 256
  | 0, _, v, h => by cases h
  | n + 1, hn, v, h => by
    rcases List.mem_append.1 h with h | h
    · exact colS_lt n (by omega) v h
    · simp at h
      omega
theorem colS_get : ∀ n i j, i < n → j < 4 → gl (colS n) (4 * i + j) = gl [3 * i + 1, 3 * i + 2, 3 * i + 3, 9] j
  | 0, i, j, h, _ => absurd h (by omega)
  | n + 1, i, j, h, hj => by
    have hl := colS_len n
    rw [colS]
    by_cases hi : i = n
    · subst hi
      have h1 := gl_2 (colS i) [3 * i + 1, 3 * i + 2, 3 * i + 3, 9] j
      rw [hl] at h1
      exact h1
    · rw [gl_1 (by omega)]
      exact colS_get n i j (by omega) hj
/-- The whole file. -/
def fileS (W bits many gap hn : Nat) (K : Nat → Nat → Nat) : List Nat := fL 54 (hF (psS W bits many gap hn)) ++ (colS many ++ (List.replicate gap 0 ++ rowsS bits W K 3))
theorem fileS_len (W bits many gap hn : Nat) (K : Nat → Nat → Nat) : (fileS W bits many gap hn K).length = 54 + 4 * many + gap + 3 * bmWide W bits := by
  simp [fileS, fL_len, colS_len, rowsS_len]
  omega
theorem fileS_lt {W bits many gap hn : Nat} {K : Nat → Nat → Nat} (hm : many ≤ 16) : ∀ v ∈ fileS W bits many gap hn K, v < 256 := by
  intro v hv
  unfold fileS at hv
  rcases List.mem_append.1 hv with h | h
  · obtain ⟨j, _, rfl⟩ := List.mem_map.1 h
    exact hF_lt _ _
  · rcases List.mem_append.1 h with h | h
    · exact colS_lt many hm v h
    · rcases List.mem_append.1 h with h | h
      · rw [(List.mem_replicate.1 h).2]
        omega
      · exact rowsS_lt _ _ _ _ v h
theorem fileS_head {W bits many gap hn : Nat} {K : Nat → Nat → Nat} {j : Nat} (hj : j < 54) : gl (fileS W bits many gap hn K) j = hF (psS W bits many gap hn) j := by
  rw [fileS, gl_1 (by rw [fL_len]; exact hj), gl_f hj]
theorem fileS_cols {W bits many gap hn : Nat} {K : Nat → Nat → Nat} {i j : Nat} (hi : i < many) (hj : j < 4) : gl (fileS W bits many gap hn K) (54 + (4 * i + j)) = gl [3 * i + 1, 3 * i + 2, 3 * i + 3, 9] j := by
  have h := gl_2 (fL 54 (hF (psS W bits many gap hn))) (colS many ++ (List.replicate gap 0 ++ rowsS bits W K 3)) (4 * i + j)
  rw [fL_len] at h
  rw [fileS, h, gl_1 (by rw [colS_len]; omega), colS_get many i j hi hj]
theorem fileS_rows {W bits many gap hn : Nat} {K : Nat → Nat → Nat} {y j : Nat} (hy : y < 3) (hj : j < bmWide W bits) : gl (fileS W bits many gap hn K) (54 + 4 * many + gap + y * bmWide W bits + j) = gl (rowS bits W (K y)) j := by
  have h := gl_2 (fL 54 (hF (psS W bits many gap hn))) (colS many ++ (List.replicate gap 0 ++ rowsS bits W K 3)) (4 * many + (gap + (y * bmWide W bits + j)))
  rw [fL_len] at h
  have h2 := gl_2 (colS many) (List.replicate gap 0 ++ rowsS bits W K 3) (gap + (y * bmWide W bits + j))
  rw [colS_len] at h2
  have h3 := gl_2 (List.replicate gap 0) (rowsS bits W K 3) (y * bmWide W bits + j)
  rw [List.length_replicate] at h3
  rw [fileS, show 54 + 4 * many + gap + y * bmWide W bits + j = 54 + (4 * many + (gap + (y * bmWide W bits + j))) by omega, h, h2, h3, rowsS_get bits W K 3 y j hy hj]
theorem hF_S (W bits many gap hn : Nat) (hW : W ≤ 256) (hb : bits ≤ 8) (hm : many ≤ 256) (hg : gap ≤ 256) (hh : hn < 4294967296) : hF (psS W bits many gap hn) 0 = 66 ∧ hF (psS W bits many gap hn) 1 = 77 ∧ lowD (hF (psS W bits many gap hn)) 10 4 = 54 + 4 * many + gap ∧ lowD (hF (psS W bits many gap hn)) 14 4 = 40 ∧ lowD (hF (psS W bits many gap hn)) 18 4 = W ∧ lowD (hF (psS W bits many gap hn)) 22 4 = hn ∧ lowD (hF (psS W bits many gap hn)) 26 2 = 1 ∧ lowD (hF (psS W bits many gap hn)) 28 2 = bits ∧ lowD (hF (psS W bits many gap hn)) 30 4 = 0 ∧ lowD (hF (psS W bits many gap hn)) 46 4 = many := by
  have q26 := hb_low (psS W bits many gap hn) 26 (1 + bits * 65536) [(10, 54 + 4 * many + gap), (14, 40), (18, W), (22, hn)] _ rfl (by intro q hq; simp at hq; subst hq; simp) (by omega)
  refine ⟨hb_0 _ _ (by intro q hq; simp [psS] at hq; rcases hq with rfl | rfl | rfl | rfl | rfl | rfl <;> simp), hb_0 _ _ (by intro q hq; simp [psS] at hq; rcases hq with rfl | rfl | rfl | rfl | rfl | rfl <;> simp), ?_, ?_, ?_, ?_, by rw [q26.2.1]; omega, by rw [q26.2.2]; omega, ?_, ?_⟩
  · exact (hb_low (psS W bits many gap hn) 10 (54 + 4 * many + gap) [] _ rfl (by intro q hq; simp at hq; rcases hq with rfl | rfl | rfl | rfl | rfl <;> simp) (by omega)).1
  · exact (hb_low (psS W bits many gap hn) 14 40 [(10, 54 + 4 * many + gap)] _ rfl (by intro q hq; simp at hq; rcases hq with rfl | rfl | rfl | rfl <;> simp) (by omega)).1
  · exact (hb_low (psS W bits many gap hn) 18 W [(10, 54 + 4 * many + gap), (14, 40)] _ rfl (by intro q hq; simp at hq; rcases hq with rfl | rfl | rfl <;> simp) (by omega)).1
  · exact (hb_low (psS W bits many gap hn) 22 hn [(10, 54 + 4 * many + gap), (14, 40), (18, W)] _ rfl (by intro q hq; simp at hq; rcases hq with rfl | rfl <;> simp) hh).1
  · have hz : ∀ x, 30 ≤ x → x < 34 → hF (psS W bits many gap hn) x = 0 := fun x h1 h2 => by
      rw [lowD_free _ _ (by intro q hq; simp [psS] at hq; rcases hq with rfl | rfl | rfl | rfl | rfl | rfl <;> simp <;> omega), F0, if_neg (by omega), if_neg (by omega)]
    rw [lowD_four, hz 30 (by omega) (by omega), hz (30 + 1) (by omega) (by omega), hz (30 + 2) (by omega) (by omega), hz (30 + 3) (by omega) (by omega)]
  · exact (hb_low (psS W bits many gap hn) 46 many [(10, 54 + 4 * many + gap), (14, 40), (18, W), (22, hn), (26, 1 + bits * 65536)] _ rfl (by intro q hq; simp at hq) (by omega)).1
def colP (k : Nat) : P4 := ((3 * k + 3) * 257, (3 * k + 2) * 257, (3 * k + 1) * 257, 65535)
theorem rowR_none {px : Nat → Option P4} {pos : Nat → Nat} : ∀ (k t0 t : Nat) (c0 : Nat → Nat), t0 ≤ t → t < t0 + k → px t = none → rowR px pos k t0 c0 = (noB, 4)
  | 0, t0, t, c0, h1, h2, _ => absurd h2 (by omega)
  | k + 1, t0, t, c0, h1, h2, hn => by
    cases hp : px t0 with
    | none => exact rowR_no hp
    | some p =>
      rw [rowR_yes hp]
      refine rowR_none k (t0 + 1) t _ ?_ (by omega) hn
      by_cases e : t = t0
      · subst e
        rw [hn] at hp
        cases hp
      · omega
def hnS (dn : Bool) : Nat := if dn = true then 4294967293 else 3
theorem small_read (W bits many gap : Nat) (dn : Bool) (K : Nat → Nat → Nat) (hW : 1 ≤ W ∧ W ≤ 40) (hbits : bits = 1 ∨ bits = 4 ∨ bits = 8) (hmany : 1 ≤ many ∧ many ≤ 16 ∧ many ≤ 2 ^ bits) (hgap : gap ≤ 4) (hK : ∀ y x, K y x < 2 ^ bits) (d : Nat → Nat) (hd : d = gl (fileS W bits many gap (hnS dn) K)) (m : Nat) (hm : m = 54 + 4 * many + gap + 3 * bmWide W bits) :
    bmW d = (W : Nat) ∧ (bmH d).natAbs = 3 ∧ ((∃ y x, y < 3 ∧ x < W ∧ many ≤ K y x) → bmG d m = (noB, 4)) ∧ ((∀ y x, y < 3 → x < W → K y x < many) → ∃ c1, bmG d m = (c1, 0) ∧ ∀ y x, y < 3 → x < W → ∀ j, j < 4 → c1 (4 * (bmY 3 dn y * W + x) + j) = pt4 (colP (K y x)) j) := by
  have hb : ∀ j, j < 54 → d j = hF (psS W bits many gap (hnS dn)) j := fun j hj => by rw [hd]; exact fileS_head hj
  have hl : ∀ k p, p + k ≤ 54 → lowD d p k = lowD (hF (psS W bits many gap (hnS dn))) p k := fun k p h => lowD_congr k p (fun j a b => hb j (by omega))
  have hb8 : bits ≤ 8 := by omega
  have hwd : bmWide W bits ≤ 40 ∧ bmWide W bits = (W * bits + 31) / 32 * 4 := by
    have h1 : W * bits ≤ 40 * 8 := Nat.mul_le_mul hW.2 hb8
    refine ⟨?_, rfl⟩
    unfold bmWide
    omega
  obtain ⟨a0, a1, a2, a3, a4, a5, a6, a7, a8, a9⟩ := hF_S W bits many gap (hnS dn) (by omega) hb8 (by omega) (by omega) (by unfold hnS; split <;> omega)
  have hof : bmOff d = 54 + 4 * many + gap := by unfold bmOff; rw [hl _ _ (by omega)]; exact a2
  have hs : bmS d = 40 := by unfold bmS; rw [hl _ _ (by omega)]; exact a3
  have hw : bmW d = (W : Nat) := by unfold bmW; rw [hl _ _ (by omega), a4, sgnV, if_pos (by omega)]
  have hh : bmH d = if dn = true then -3 else 3 := by
    unfold bmH
    rw [hl _ _ (by omega), a5]
    unfold sgnV hnS
    cases dn <;> rfl
  have hpl : lowD d 26 2 = 1 := by rw [hl _ _ (by omega)]; exact a6
  have hbi : bmBits d = bits := by unfold bmBits; rw [hl _ _ (by omega)]; exact a7
  have hk : bmK d = 0 := by unfold bmK; rw [hl _ _ (by omega)]; exact a8
  have hu : lowD d 46 4 = many := by rw [hl _ _ (by omega)]; exact a9
  have hus : bmUsed d = many := by rw [bmUsed, hu, if_neg (by omega)]
  have hz : sizeE (W : Nat) ((3 : Nat) : Int) = 0 := by
    unfold sizeE
    rw [if_neg (by omega), if_neg]
    have h2 : (16384 : Int) / ((3 : Nat) : Int) = 5461 := by decide
    rw [h2]
    omega
  have ha : (bmH d).natAbs = 3 := by rw [hh]; cases dn <;> rfl
  refine ⟨hw, ha, ?_⟩
  have hfine : bmFine (bmBits d) (bmK d) (bmH d) = true := by rw [hbi, hk]; unfold bmFine; exact decide_eq_true ⟨by omega, by omega, by omega, by omega, by omega⟩
  have hE1 : headE d m = 0 := headE_0 (by omega) ⟨by rw [hb _ (by omega)]; exact a0, by rw [hb _ (by omega)]; exact a1⟩ (by omega) (by omega) ⟨hpl, by rw [hw]; omega, by rw [hh]; cases dn <;> simp, hfine⟩ (by rw [hw, ha]; exact not_not_intro hz)
  have he1 : bmE1 d = 54 := by rw [bmE1, hs, if_neg (by omega)]
  have hE2 : swE d m = 0 := by
    rw [swE, if_neg (by omega), if_neg (by omega), if_neg ?_, if_neg (by omega)]
    rw [hbi, hus]
    omega
  have he2 : bmE2 d = 54 + 4 * many := by rw [bmE2, he1, hus, if_pos (by omega)]
  have hE3 : offE d m = 0 := by rw [offE, if_neg (by omega), if_neg (by omega)]
  have hE : bmErr d m = 0 := by rw [bmErr_eq d m (by omega), hE1, hE2, hE3]; rfl
  have hcl : (bmCols d).length = many := by rw [bmCols, if_pos (by omega), hus]; simp
  have hcg : ∀ k, k < many → (bmCols d)[k]? = some (colP k) := fun k hk2 => by
    rw [bmCols, if_pos (by omega), hus, he1, List.getElem?_map, List.getElem?_range hk2]
    have h0 : d (54 + 4 * k) = 3 * k + 1 := by rw [hd]; exact fileS_cols (i := k) (j := 0) hk2 (by omega)
    have h1 : d (54 + 4 * k + 1) = 3 * k + 2 := by rw [hd]; exact fileS_cols (i := k) (j := 1) hk2 (by omega)
    have h2 : d (54 + 4 * k + 2) = 3 * k + 3 := by rw [hd]; exact fileS_cols (i := k) (j := 2) hk2 (by omega)
    simp only [Option.map_some, back3, colP, h0, h1, h2]
  have hdn : decide (bmH d < 0) = dn := by rw [hh]; cases dn <;> rfl
  have hpx : ∀ y x, y < 3 → x < W → pxR d W bits (54 + 4 * many + gap) (bmMask d) (bmCols d) (y * W + x) = if many ≤ K y x then none else some (colP (K y x)) := fun y x hy hx => by
    have hp := rowS_place bits W (K y) hbits x hx (hK y x)
    have h8 : x * bits / 8 < bmWide W bits := by
      have h1 : x * bits + bits ≤ W * bits := by
        have := Nat.mul_le_mul_right bits (show x + 1 ≤ W by omega)
        rwa [Nat.add_mul, Nat.one_mul] at this
      rw [hwd.2]
      omega
    rw [← fileS_rows (many := many) (gap := gap) (hn := hnS dn) (K := K) hy h8, ← hd] at hp
    rw [pxR_at hx, bmPx, if_neg (by omega), if_neg (by omega), if_neg (by omega), hp, hcl]
    by_cases hq : many ≤ K y x
    · rw [if_pos hq, if_pos hq]
    · rw [if_neg hq, if_neg hq, hcg _ (by omega)]
      rfl
  have hG : bmG d m = rowR (pxR d W bits (54 + 4 * many + gap) (bmMask d) (bmCols d)) (posR W 3 dn) (W * 3) 0 noB := by
    rw [bmG, hE, if_neg (by simp), if_neg (by omega), hw, ha, hbi, hof, hdn, Int.toNat_natCast, bmRows_eq, if_neg (by omega)]
  have hin : ∀ y x, y < 3 → x < W → y * W + x < 0 + W * 3 := fun y x hy hx => by
    have := Nat.mul_le_mul_right W (show y ≤ 2 by omega)
    omega
  refine ⟨fun ⟨y, x, hy, hx, hq⟩ => ?_, fun hall => ?_⟩
  · rw [hG]
    exact rowR_none (W * 3) 0 (y * W + x) noB (by omega) (hin y x hy hx) (by rw [hpx y x hy hx, if_pos hq])
  · have hdm : ∀ t, t < 0 + W * 3 → t / W < 3 ∧ t % W < W ∧ t / W * W + t % W = t := fun t ht => by
      refine ⟨Nat.div_lt_of_lt_mul (by omega), Nat.mod_lt _ (by omega), ?_⟩
      rw [Nat.mul_comm]
      exact Nat.div_add_mod t W
    obtain ⟨c1, h1, h2, _⟩ := drawB_all (px := pxR d W bits (54 + 4 * many + gap) (bmMask d) (bmCols d)) (pos := posR W 3 dn) (P := fun t => colP (K (t / W) (t % W))) (W * 3) 0 noB (fun t _ ht => by
      obtain ⟨h1, h2, h3⟩ := hdm t ht
      have h4 := hpx _ _ h1 h2
      rw [h3, if_neg (by have := hall _ _ h1 h2; omega)] at h4
      exact h4) (fun s t _ hs' _ ht e => by
      obtain ⟨s1, s2, s3⟩ := hdm s hs'
      obtain ⟨t1, t2, t3⟩ := hdm t ht
      rw [← s3, ← t3] at e ⊢
      generalize s / W = sy at *
      generalize s % W = sx at *
      generalize t / W = ty at *
      generalize t % W = tx at *
      rw [posR_at s2, posR_at t2] at e
      have e1 := congrArg (· / W) e
      have e2 := congrArg (· % W) e
      simp only [div_row s2, div_row t2, mod_row s2, mod_row t2] at e1 e2
      have e3 : sy = ty := by unfold bmY at e1; split at e1 <;> omega
      rw [e3, e2])
    refine ⟨c1, ?_, fun y x hy hx j hj => ?_⟩
    · rw [hG, rowR, h1]
    · have h3 := h2 (y * W + x) (by omega) (hin y x hy hx) j hj
      rw [posR_at hx] at h3
      rw [h3]
      simp only [div_row hx, mod_row hx]
end Go.Proofs.YtdooefnckdklmaaDoor
