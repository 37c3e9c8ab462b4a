/- What a file's bytes say. -/
import Derived.Test.YthgafdbdmemkhaaBmp
namespace Go.Proofs.Ythgafdbdmemkhaa
set_option linter.unusedVariables false
open Go.ChangeShapes Go.WideShapes Go.ChangeAt Go.RowKit

def gd (l : List Nat) (j : Nat) : Nat := (l[j]?).getD 0
theorem gd_app {l m : List Nat} {j : Nat} (h : j < l.length) : gd (l ++ m) j = gd l j := by unfold gd; rw [List.getElem?_append_left h]
theorem gd_app2 (l m : List Nat) (j : Nat) : gd (l ++ m) (l.length + j) = gd m j := by unfold gd; rw [List.getElem?_append_right (by omega), Nat.add_sub_cancel_left]
theorem gd_lt {l : List Nat} (h : ∀ x ∈ l, x < 256) (j : Nat) : gd l j < 256 := by
  unfold gd
  cases hj : l[j]? with
  | none => simp
  | some x => exact h x (List.mem_of_getElem? hj)
theorem low_of {d : Nat → Nat} (k : Nat) : ∀ (p n : Nat), (∀ i, i < k → d (p + i) = n / 2 ^ (8 * i) % 256) → n < 256 ^ k → lowD d p k = n := by
  induction k with
  | zero => intro p n _ hn; simp at hn; simp [lowD, hn]
  | succ k ih =>
    intro p n h hn
    have h0 := h 0 (by omega)
    simp at h0
    rw [lowD, h0, ih (p + 1) (n / 256) ?_ ?_]
    · omega
    · intro i hi
      have h1 := h (i + 1) (by omega)
      rw [show p + 1 + i = p + (i + 1) by omega, h1, Nat.div_div_eq_div_mul]
      congr 2
      rw [show 8 * (i + 1) = 8 * i + 8 by omega, Nat.pow_add, Nat.mul_comm]
    · rw [Nat.pow_succ] at hn
      exact Nat.div_lt_of_lt_mul (by omega)
theorem low_at {l p q : List Nat} {n k P : Nat} (he : l = p ++ (leB n k ++ q)) (hP : p.length = P) (hn : n < 256 ^ k) : lowD (gd l) P k = n := by
  refine low_of k P n (fun i hi => ?_) hn
  rw [he, ← hP, gd_app2, gd_app (by rw [leB_len]; exact hi)]
  simp [gd, leB, hi]
theorem gdf_get {f : Nat → List Nat} {m : Nat} (h : ∀ x, (f x).length = m) (n k r : Nat) (hk : k < n) (hr : r < m) : gd ((List.range n).flatMap f) (k * m + r) = gd (f k) r := by
  induction n with
  | zero => omega
  | succ n ih =>
    rw [List.range_succ, List.flatMap_append, List.flatMap_singleton]
    have hl := flat_const h n
    by_cases hE : k = n
    · subst hE
      rw [← hl, gd_app2]
    · have h1 : k * m + m ≤ n * m := by
        have : (k + 1) * m ≤ n * m := Nat.mul_le_mul_right m (by omega)
        rwa [Nat.add_mul, Nat.one_mul] at this
      rw [gd_app (by omega)]
      exact ih (by omega)
theorem fileL_lt (gt : Bool) (c : Nat → Nat) (hc : ∀ i, c i < 65536) (a b : Nat) : ∀ x ∈ fileL gt c a b, x < 256 := by
  have hz : ∀ k, ∀ x ∈ zerL k, x < 256 := fun k x hx => by
    obtain ⟨i, _, hx⟩ := List.mem_flatMap.1 hx
    exact leB_lt _ _ x hx
  have hr : ∀ k, ∀ x ∈ List.replicate k 0, x < 256 := fun k x hx => by rw [(List.mem_replicate.1 hx).2]; omega
  have hm : ∀ x ∈ masksL 4, x < 256 := fun x hx => by
    obtain ⟨i, _, hx⟩ := List.mem_flatMap.1 hx
    exact leB_lt _ _ x hx
  have h2 : ∀ x ∈ [66, 77], x < 256 := fun x hx => by simp at hx; omega
  have h1 : ∀ wd, ∀ x ∈ head1 gt wd a b, x < 256 := fun wd => by
    unfold head1
    exact app_lt8 (app_lt8 (app_lt8 (app_lt8 (app_lt8 (app_lt8 (app_lt8 (app_lt8 (app_lt8 (app_lt8 h2 (leB_lt _ _)) (leB_lt _ _)) (leB_lt _ _)) (leB_lt _ _)) (leB_lt _ _)) (leB_lt _ _)) (leB_lt _ _)) (leB_lt _ _)) (leB_lt _ _)) (leB_lt _ _)
  have h3 : ∀ x ∈ (if gt then masksL 4 ++ List.replicate 52 0 else []), x < 256 := by
    cases gt with
    | true => exact app_lt8 hm (hr 52)
    | false => intro x hx; simp at hx
  unfold fileL headL
  refine app_lt8 (app_lt8 (app_lt8 (h1 _) (hz 4)) h3) (fun x hx => ?_)
  obtain ⟨t, _, hx⟩ := List.mem_flatMap.1 hx
  rcases List.mem_append.1 hx with hx | hx
  · obtain ⟨u, _, hx⟩ := List.mem_flatMap.1 hx
    obtain ⟨j, _, rfl⟩ := List.mem_map.1 hx
    have := hc (4 * ((b - 1 - t) * a + u) + partN j)
    omega
  · exact hr _ x hx
theorem wide_le (gt : Bool) (a : Nat) : wideH gt a ≤ 4 * a + 4 := by cases gt <;> simp [wideH, bitsH] <;> omega
theorem fileL_len (gt : Bool) (c : Nat → Nat) (a b : Nat) (ha : a ≤ 256) : (fileL gt c a b).length = 14 + sizeH gt + wideH gt a * b := by
  rw [fileL, List.length_append, headL_len, rowsL_len _ _ _ _ _ _ (wide_bd gt a ha).2.1, Nat.mul_comm]
theorem file_head (gt : Bool) (c : Nat → Nat) (hc : ∀ i, c i < 65536) (a b : Nat) (ha : a ≤ 256) (hb : b ≤ 256) : HeadD (gd (fileL gt c a b)) (sizeH gt) a b (bitsH gt) (kindH gt) := by
  obtain ⟨hw1, hw2, hw3, hw4, hw5⟩ := wide_bd gt a ha
  obtain ⟨T, hT⟩ : ∃ T, fileL gt c a b = head1 gt (wideH gt a) a b ++ T := ⟨_, by rw [fileL, headL, List.append_assoc, List.append_assoc]⟩
  obtain ⟨W, hW⟩ : ∃ W, W = wideH gt a := ⟨_, rfl⟩
  rw [← hW] at hT
  unfold head1 at hT
  constructor
  · exact gd_lt (fileL_lt gt c hc a b)
  · rw [hT]; rfl
  · rw [hT]; rfl
  · exact low_at (p := [66, 77] ++ leB (14 + sizeH gt + W * b) 4 ++ leB 0 4) (by rw [hT]; simp only [List.append_assoc]; rfl) (by simp [leB_len]) (by omega)
  · exact low_at (p := [66, 77] ++ leB (14 + sizeH gt + W * b) 4 ++ leB 0 4 ++ leB (14 + sizeH gt) 4) (by rw [hT]; simp only [List.append_assoc]; rfl) (by simp [leB_len]) (by omega)
  · exact low_at (p := [66, 77] ++ leB (14 + sizeH gt + W * b) 4 ++ leB 0 4 ++ leB (14 + sizeH gt) 4 ++ leB (sizeH gt) 4) (by rw [hT]; simp only [List.append_assoc]; rfl) (by simp [leB_len]) (by omega)
  · exact low_at (p := [66, 77] ++ leB (14 + sizeH gt + W * b) 4 ++ leB 0 4 ++ leB (14 + sizeH gt) 4 ++ leB (sizeH gt) 4 ++ leB a 4) (by rw [hT]; simp only [List.append_assoc]; rfl) (by simp [leB_len]) (by omega)
  · exact low_at (p := [66, 77] ++ leB (14 + sizeH gt + W * b) 4 ++ leB 0 4 ++ leB (14 + sizeH gt) 4 ++ leB (sizeH gt) 4 ++ leB a 4 ++ leB b 4) (by rw [hT]; simp only [List.append_assoc]; rfl) (by simp [leB_len]) (by omega)
  · exact low_at (p := [66, 77] ++ leB (14 + sizeH gt + W * b) 4 ++ leB 0 4 ++ leB (14 + sizeH gt) 4 ++ leB (sizeH gt) 4 ++ leB a 4 ++ leB b 4 ++ leB 1 2) (by rw [hT]; simp only [List.append_assoc]; rfl) (by simp [leB_len]) (by omega)
  · exact low_at (p := [66, 77] ++ leB (14 + sizeH gt + W * b) 4 ++ leB 0 4 ++ leB (14 + sizeH gt) 4 ++ leB (sizeH gt) 4 ++ leB a 4 ++ leB b 4 ++ leB 1 2 ++ leB (bitsH gt) 2) (by rw [hT]; simp only [List.append_assoc]; rfl) (by simp [leB_len]) (by cases gt <;> simp [kindH])
theorem file_mask (c : Nat → Nat) (a b : Nat) : MaskD (gd (fileL true c a b)) := by
  obtain ⟨H, hH, hHl⟩ : ∃ H, H = head1 true (wideH true a) a b ++ zerL 4 ∧ H.length = 54 := ⟨_, rfl, by rw [List.length_append, head1_len, zerL_len]⟩
  have hm : masksL 4 = leB 16711680 4 ++ (leB 65280 4 ++ (leB 255 4 ++ (leB 4278190080 4 ++ []))) := rfl
  obtain ⟨T, hT⟩ : ∃ T, fileL true c a b = H ++ (leB 16711680 4 ++ (leB 65280 4 ++ (leB 255 4 ++ (leB 4278190080 4 ++ T)))) := ⟨_, by
    rw [fileL, headL, ← hH, if_pos rfl, hm]
    simp only [List.append_assoc, List.nil_append]
    rfl⟩
  constructor
  · exact low_at hT hHl (by omega)
  · exact low_at (p := H ++ leB 16711680 4) (by rw [hT]; simp only [List.append_assoc]; rfl) (by simp [leB_len, hHl]) (by omega)
  · exact low_at (p := H ++ leB 16711680 4 ++ leB 65280 4) (by rw [hT]; simp only [List.append_assoc]; rfl) (by simp [leB_len, hHl]) (by omega)
  · exact low_at (p := H ++ leB 16711680 4 ++ leB 65280 4 ++ leB 255 4) (by rw [hT]; simp only [List.append_assoc]; rfl) (by simp [leB_len, hHl]) (by omega)
theorem file_px (gt : Bool) (c : Nat → Nat) (a b N : Nat) (ha : a ≤ 256) (hab : a * b = N) (h257 : ∀ i, i < 4 * N → c i % 257 = 0) (hop : gt = !opqB N c) (k x : Nat) (hk : k < b) (hx : x < a) :
    PixD gt (gd (fileL gt c a b)) c (14 + sizeH gt + k * wideH gt a + partsH gt * x) ((b - 1 - k) * a + x) := by
  obtain ⟨hw1, hw2, hw3, hw4, hw5⟩ := wide_bd gt a ha
  obtain ⟨W, hW⟩ : ∃ W, W = wideH gt a := ⟨_, rfl⟩
  obtain ⟨P, hP⟩ : ∃ P, P = partsH gt := ⟨_, rfl⟩
  obtain ⟨Q, hQ⟩ : ∃ Q, Q = (b - 1 - k) * a + x := ⟨_, rfl⟩
  have hQN : Q < N := by
    rw [← hab, hQ]
    have e : (b - 1 - k + 1) * a ≤ b * a := Nat.mul_le_mul_right a (by omega)
    rw [Nat.add_mul, Nat.one_mul] at e
    rw [Nat.mul_comm a b]
    omega
  have hP3 : 3 ≤ P := by rw [hP]; unfold partsH; split <;> omega
  rw [← hW, ← hP] at hw2
  rw [← hP] at hw5
  rw [← hW, ← hP, ← hQ]
  have hxP : P * x + P ≤ P * a := by
    have : P * (x + 1) ≤ P * a := Nat.mul_le_mul_left P hx
    rwa [Nat.mul_add, Nat.mul_one] at this
  have hg : ∀ j, j < P → gd (fileL gt c a b) (14 + sizeH gt + k * W + P * x + j) = c (4 * Q + partN j) / 257 := fun j hj => by
    rw [fileL, ← hW, ← hP, show 14 + sizeH gt + k * W + P * x + j = (headL gt W a b).length + (k * W + (x * P + j)) by rw [headL_len, Nat.mul_comm P x]; omega, gd_app2, rowsL,
      gdf_get (fun t => rowL_len P a W c _ hw2) b k _ hk (by rw [Nat.mul_comm x P]; omega), rowL, gd_app (by rw [pxs_len P a c (fun x => (b - 1 - k) * a + x), Nat.mul_comm a P, Nat.mul_comm x P]; omega),
      gdf_get (fun t => pxL_len P c _) a x j hx hj, ← hQ]
    simp [gd, pxL, hj]
  have hd : ∀ j, j < 4 → c (4 * Q + j) / 257 * 257 = c (4 * Q + j) := fun j hj => by
    have := h257 (4 * Q + j) (by omega)
    omega
  constructor
  · have h := hg 0 (by omega)
    rw [Nat.add_zero] at h
    rw [h]
    exact hd 2 (by omega)
  · rw [hg 1 (by omega)]; exact hd 1 (by omega)
  · rw [hg 2 (by omega)]; exact hd 0 (by omega)
  · cases gt with
    | true =>
      have hP4 : P = 4 := hP
      rw [if_pos rfl, hg 3 (by omega)]
      exact hd 3 (by omega)
    | false =>
      have ho : opqB N c = true := by cases h : opqB N c with | true => rfl | false => rw [h] at hop; cases hop
      exact opq_iff.1 ho Q hQN
end Go.Proofs.Ythgafdbdmemkhaa
