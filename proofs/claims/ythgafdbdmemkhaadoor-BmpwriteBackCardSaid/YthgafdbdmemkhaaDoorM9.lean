/- What a file's bytes say. A file that Encode wrote, read by the reference. engraverlaw15.Noise, of bytes. Layer 19's awake. -/
import Derived.Test.YthgafdbdmemkhaaDoorM8

namespace Go.Proofs.YthgafdbdmemkhaaDoor
set_option maxRecDepth 100000
set_option linter.unusedVariables false
open Go.ChangeShapes Go.WideShapes Go.ChangeAt Go.RowKit

def gd (l : List Nat) (j : Nat) : Nat := (l[j]?).getD 0
theorem gd_app {l m : List Nat} {j : Nat} (h : j < l.length) : gd (l ++ m) j = gd l j := by unfold gd; rw [List.getElem?_append_left h]
theorem gd_app2 (l m : List Nat) (j : Nat) : gd (l ++ m) (l.length + j) = gd m j := by unfold gd; rw [List.getElem?_append_right (by omega), Nat.add_sub_cancel_left]
theorem gd_lt {l : List Nat} (h : ∀ x ∈ l, x < 256) (j : Nat) : gd l j < 256 := by
  unfold gd
  cases hj : l[j]? with
  | none => simp
  | some x => exact h x (List.mem_of_getElem? hj)
theorem low_of {d : Nat → Nat} (k : Nat) : ∀ (p n : Nat), (∀ i, i < k → d (p + i) = n / 2 ^ (8 * i) % 256) → n < 256 ^ k → lowD d p k = n := by
  induction k with
  | zero => intro p n _ hn; simp at hn; simp [lowD, hn]
  | succ k ih =>
    intro p n h hn
    have h0 := h 0 (by omega)
    simp at h0
    rw [lowD, h0, ih (p + 1) (n / 256) ?_ ?_]
    · omega
    · intro i hi
      have h1 := h (i + 1) (by omega)
      rw [show p + 1 + i = p + (i + 1) by omega, h1, Nat.div_div_eq_div_mul]
      congr 2
      rw [show 8 * (i + 1) = 8 * i + 8 by omega, Nat.pow_add, Nat.mul_comm]
    · rw [Nat.pow_succ] at hn
      exact Nat.div_lt_of_lt_mul (by omega)
theorem low_at {l p q : List Nat} {n k P : Nat} (he : l = p ++ (leB n k ++ q)) (hP : p.length = P) (hn : n < 256 ^ k) : lowD (gd l) P k = n := by
  refine low_of k P n (fun i hi => ?_) hn
  rw [he, ← hP, gd_app2, gd_app (by rw [leB_len]; exact hi)]
  simp [gd, leB, hi]
theorem gdf_get {f : Nat → List Nat} {m : Nat} (h : ∀ x, (f x).length = m) (n k r : Nat) (hk : k < n) (hr : r < m) : gd ((List.range n).flatMap f) (k * m + r) = gd (f k) r := by
  induction n with
  | zero => omega
  | succ n ih =>
    rw [List.range_succ, List.flatMap_append, List.flatMap_singleton]
    have hl := flat_const h n
    by_cases hE : k = n
    · subst hE
      rw [← hl, gd_app2]
    · have h1 : k * m + m ≤ n * m := by
        have : (k + 1) * m ≤ n * m := Nat.mul_le_mul_right m (by omega)
        rwa [Nat.add_mul, Nat.one_mul] at this
      rw [gd_app (by omega)]
      exact ih (by omega)
theorem fileL_lt (gt : Bool) (c : Nat → Nat) (hc : ∀ i, c i < 65536) (a b : Nat) : ∀ x ∈ fileL gt c a b, x < 256 := by
  have hz : ∀ k, ∀ x ∈ zerL k, x < 256 := fun k x hx => by
    obtain ⟨i, _, hx⟩ := List.mem_flatMap.1 hx
    exact leB_lt _ _ x hx
  have hr : ∀ k, ∀ x ∈ List.replicate k 0, x < 256 := fun k x hx => by rw [(List.mem_replicate.1 hx).2]; omega
  have hm : ∀ x ∈ masksL 4, x < 256 := fun x hx => by
    obtain ⟨i, _, hx⟩ := List.mem_flatMap.1 hx
    exact leB_lt _ _ x hx
  have h2 : ∀ x ∈ [66, 77], x < 256 := fun x hx => by simp at hx; omega
  have h1 : ∀ wd, ∀ x ∈ head1 gt wd a b, x < 256 := fun wd => by
    unfold head1
    exact app_lt8 (app_lt8 (app_lt8 (app_lt8 (app_lt8 (app_lt8 (app_lt8 (app_lt8 (app_lt8 (app_lt8 h2 (leB_lt _ _)) (leB_lt _ _)) (leB_lt _ _)) (leB_lt _ _)) (leB_lt _ _)) (leB_lt _ _)) (leB_lt _ _)) (leB_lt _ _)) (leB_lt _ _)) (leB_lt _ _)
  have h3 : ∀ x ∈ (if gt then masksL 4 ++ List.replicate 52 0 else []), x < 256 := by
    cases gt with
    | true => exact app_lt8 hm (hr 52)
    | false => intro x hx; simp at hx
  unfold fileL headL
  refine app_lt8 (app_lt8 (app_lt8 (h1 _) (hz 4)) h3) (fun x hx => ?_)
  obtain ⟨t, _, hx⟩ := List.mem_flatMap.1 hx
  rcases List.mem_append.1 hx with hx | hx
  · obtain ⟨u, _, hx⟩ := List.mem_flatMap.1 hx
    obtain ⟨j, _, rfl⟩ := List.mem_map.1 hx
    have := hc (4 * ((b - 1 - t) * a + u) + partN j)
    omega
  · exact hr _ x hx
theorem wide_leH (gt : Bool) (a : Nat) : wideH gt a ≤ 4 * a + 4 := by cases gt <;> simp [wideH, bitsH] <;> omega
theorem fileL_len (gt : Bool) (c : Nat → Nat) (a b : Nat) (ha : a ≤ 256) : (fileL gt c a b).length = 14 + sizeH gt + wideH gt a * b := by
  rw [fileL, List.length_append, headL_len, rowsL_len _ _ _ _ _ _ (wide_bd gt a ha).2.1, Nat.mul_comm]
theorem file_head (gt : Bool) (c : Nat → Nat) (hc : ∀ i, c i < 65536) (a b : Nat) (ha : a ≤ 256) (hb : b ≤ 256) : HeadD (gd (fileL gt c a b)) (sizeH gt) a b (bitsH gt) (kindH gt) := by
  obtain ⟨hw1, hw2, hw3, hw4, hw5⟩ := wide_bd gt a ha
  obtain ⟨T, hT⟩ : ∃ T, fileL gt c a b = head1 gt (wideH gt a) a b ++ T := ⟨_, by rw [fileL, headL, List.append_assoc, List.append_assoc]⟩
  obtain ⟨W, hW⟩ : ∃ W, W = wideH gt a := ⟨_, rfl⟩
  rw [← hW] at hT
  unfold head1 at hT
  constructor
  · exact gd_lt (fileL_lt gt c hc a b)
  · rw [hT]; rfl
  · rw [hT]; rfl
  · exact low_at (p := [66, 77] ++ leB (14 + sizeH gt + W * b) 4 ++ leB 0 4) (by rw [hT]; simp only [List.append_assoc]; rfl) (by simp [leB_len]) (by omega)
  · exact low_at (p := [66, 77] ++ leB (14 + sizeH gt + W * b) 4 ++ leB 0 4 ++ leB (14 + sizeH gt) 4) (by rw [hT]; simp only [List.append_assoc]; rfl) (by simp [leB_len]) (by omega)
  · exact low_at (p := [66, 77] ++ leB (14 + sizeH gt + W * b) 4 ++ leB 0 4 ++ leB (14 + sizeH gt) 4 ++ leB (sizeH gt) 4) (by rw [hT]; simp only [List.append_assoc]; rfl) (by simp [leB_len]) (by omega)
  · exact low_at (p := [66, 77] ++ leB (14 + sizeH gt + W * b) 4 ++ leB 0 4 ++ leB (14 + sizeH gt) 4 ++ leB (sizeH gt) 4 ++ leB a 4) (by rw [hT]; simp only [List.append_assoc]; rfl) (by simp [leB_len]) (by omega)
  · exact low_at (p := [66, 77] ++ leB (14 + sizeH gt + W * b) 4 ++ leB 0 4 ++ leB (14 + sizeH gt) 4 ++ leB (sizeH gt) 4 ++ leB a 4 ++ leB b 4) (by rw [hT]; simp only [List.append_assoc]; rfl) (by simp [leB_len]) (by omega)
  · exact low_at (p := [66, 77] ++ leB (14 + sizeH gt + W * b) 4 ++ leB 0 4 ++ leB (14 + sizeH gt) 4 ++ leB (sizeH gt) 4 ++ leB a 4 ++ leB b 4 ++ leB 1 2) (by rw [hT]; simp only [List.append_assoc]; rfl) (by simp [leB_len]) (by omega)
  · exact low_at (p := [66, 77] ++ leB (14 + sizeH gt + W * b) 4 ++ leB 0 4 ++ leB (14 + sizeH gt) 4 ++ leB (sizeH gt) 4 ++ leB a 4 ++ leB b 4 ++ leB 1 2 ++ leB (bitsH gt) 2) (by rw [hT]; simp only [List.append_assoc]; rfl) (by simp [leB_len]) (by cases gt <;> simp [kindH])
theorem file_mask (c : Nat → Nat) (a b : Nat) : MaskD (gd (fileL true c a b)) := by
  obtain ⟨H, hH, hHl⟩ : ∃ H, H = head1 true (wideH true a) a b ++ zerL 4 ∧ H.length = 54 := ⟨_, rfl, by rw [List.length_append, head1_len, zerL_len]⟩
  have hm : masksL 4 = leB 16711680 4 ++ (leB 65280 4 ++ (leB 255 4 ++ (leB 4278190080 4 ++ []))) := rfl
  obtain ⟨T, hT⟩ : ∃ T, fileL true c a b = H ++ (leB 16711680 4 ++ (leB 65280 4 ++ (leB 255 4 ++ (leB 4278190080 4 ++ T)))) := ⟨_, by
    rw [fileL, headL, ← hH, if_pos rfl, hm]
    simp only [List.append_assoc, List.nil_append]
    rfl⟩
  constructor
  · exact low_at hT hHl (by omega)
  · exact low_at (p := H ++ leB 16711680 4) (by rw [hT]; simp only [List.append_assoc]; rfl) (by simp [leB_len, hHl]) (by omega)
  · exact low_at (p := H ++ leB 16711680 4 ++ leB 65280 4) (by rw [hT]; simp only [List.append_assoc]; rfl) (by simp [leB_len, hHl]) (by omega)
  · exact low_at (p := H ++ leB 16711680 4 ++ leB 65280 4 ++ leB 255 4) (by rw [hT]; simp only [List.append_assoc]; rfl) (by simp [leB_len, hHl]) (by omega)
theorem file_px (gt : Bool) (c : Nat → Nat) (a b N : Nat) (ha : a ≤ 256) (hab : a * b = N) (h257 : ∀ i, i < 4 * N → c i % 257 = 0) (hop : gt = !opqB N c) (k x : Nat) (hk : k < b) (hx : x < a) :
    PixD gt (gd (fileL gt c a b)) c (14 + sizeH gt + k * wideH gt a + partsH gt * x) ((b - 1 - k) * a + x) := by
  obtain ⟨hw1, hw2, hw3, hw4, hw5⟩ := wide_bd gt a ha
  obtain ⟨W, hW⟩ : ∃ W, W = wideH gt a := ⟨_, rfl⟩
  obtain ⟨P, hP⟩ : ∃ P, P = partsH gt := ⟨_, rfl⟩
  obtain ⟨Q, hQ⟩ : ∃ Q, Q = (b - 1 - k) * a + x := ⟨_, rfl⟩
  have hQN : Q < N := by
    rw [← hab, hQ]
    have e : (b - 1 - k + 1) * a ≤ b * a := Nat.mul_le_mul_right a (by omega)
    rw [Nat.add_mul, Nat.one_mul] at e
    rw [Nat.mul_comm a b]
    omega
  have hP3 : 3 ≤ P := by rw [hP]; unfold partsH; split <;> omega
  rw [← hW, ← hP] at hw2
  rw [← hP] at hw5
  rw [← hW, ← hP, ← hQ]
  have hxP : P * x + P ≤ P * a := by
    have : P * (x + 1) ≤ P * a := Nat.mul_le_mul_left P hx
    rwa [Nat.mul_add, Nat.mul_one] at this
  have hg : ∀ j, j < P → gd (fileL gt c a b) (14 + sizeH gt + k * W + P * x + j) = c (4 * Q + partN j) / 257 := fun j hj => by
    rw [fileL, ← hW, ← hP, show 14 + sizeH gt + k * W + P * x + j = (headL gt W a b).length + (k * W + (x * P + j)) by rw [headL_len, Nat.mul_comm P x]; omega, gd_app2, rowsL,
      gdf_get (fun t => rowL_len P a W c _ hw2) b k _ hk (by rw [Nat.mul_comm x P]; omega), rowL, gd_app (by rw [pxs_len P a c (fun x => (b - 1 - k) * a + x), Nat.mul_comm a P, Nat.mul_comm x P]; omega),
      gdf_get (fun t => pxL_len P c _) a x j hx hj, ← hQ]
    simp [gd, pxL, hj]
  have hd : ∀ j, j < 4 → c (4 * Q + j) / 257 * 257 = c (4 * Q + j) := fun j hj => by
    have := h257 (4 * Q + j) (by omega)
    omega
  constructor
  · have h := hg 0 (by omega)
    rw [Nat.add_zero] at h
    rw [h]
    exact hd 2 (by omega)
  · rw [hg 1 (by omega)]; exact hd 1 (by omega)
  · rw [hg 2 (by omega)]; exact hd 0 (by omega)
  · cases gt with
    | true =>
      have hP4 : P = 4 := hP
      rw [if_pos rfl, hg 3 (by omega)]
      exact hd 3 (by omega)
    | false =>
      have ho : opqB N c = true := by cases h : opqB N c with | true => rfl | false => rw [h] at hop; cases hop
      exact opq_iff.1 ho Q hQN
end Go.Proofs.YthgafdbdmemkhaaDoor

namespace Go.Proofs.YthgafdbdmemkhaaDoor
set_option maxRecDepth 100000
set_option linter.unusedVariables false
open Go.ChangeShapes Go.WideShapes Go.ChangeAt Go.RowKit

theorem byt_own {w : World} {B n : Nat} {A : Option Addr} {cap : Nat} {l : List Nat} (h : w.ownsRow B 5 1 (.slice A n cap) n (cellsB l)) : n ≤ cap ∧ cap ≤ maxLen ∧ Byt w A n (gd l) := by
  obtain ⟨hl, A', cap', he, h1, h2, h3⟩ := Sl.of_own h
  cases he
  refine ⟨h1, h2, fun hn => ?_⟩
  rw [cellsB_len] at hl
  obtain ⟨b, off, rfl, hlt, hc⟩ := h3 (by omega)
  refine ⟨b, off, rfl, hlt, fun j hj => ?_⟩
  rw [hc j (by omega)]
  have hj2 : j < l.length := by omega
  simp [cellsB, gd, hj2]
/-- A picture that BMP can hold, its sides as numbers. -/
theorem pic_nat {a b : Int} {n : Nat} {c : Nat → Nat} (h : fitsB a b n c 3 = true) : ∃ a' b' N : Nat, a = (a' : Int) ∧ b = (b' : Int) ∧ n = 4 * N ∧ a' * b' = N ∧ (1 ≤ a' ∧ a' ≤ 256) ∧ (1 ≤ b' ∧ b' ≤ 256) ∧ N ≤ 16384 ∧ sizeE a' b' = 0 ∧ ∀ i, i < 4 * N → c i % 257 = 0 := by
  have hm := fits_may h
  obtain ⟨hz, hn⟩ := may_ok hm
  obtain ⟨h1, h2, h3, h4, h5⟩ := size_ok hz
  obtain ⟨a', rfl⟩ := Int.eq_ofNat_of_zero_le (show 0 ≤ a by omega)
  obtain ⟨b', rfl⟩ := Int.eq_ofNat_of_zero_le (show 0 ≤ b by omega)
  have e1 : (a' : Int) * (b' : Int) = ((a' * b' : Nat) : Int) := by simp
  have e2 : 4 * (a' : Int) * (b' : Int) = 4 * ((a' * b' : Nat) : Int) := by rw [Int.mul_assoc, e1]
  have hb : bytesB n c = true := by simpa [fitsB, hm] using h
  obtain ⟨N, hN⟩ : ∃ N, N = a' * b' := ⟨_, rfl⟩
  rw [← hN] at e1 e2
  have hn4 : n = 4 * N := by omega
  refine ⟨a', b', N, rfl, rfl, hn4, hN.symm, ⟨by omega, by omega⟩, ⟨by omega, by omega⟩, by omega, hz, ?_⟩
  rw [← hn4]
  exact bytes_iff.1 hb
theorem fits_of {a b : Int} {n : Nat} {c : Nat → Nat} (hm : mayB a b n = true) (h : ∀ i, i < n → c i % 257 = 0) : fitsB a b n c 3 = true := by
  simp [fitsB, hm, bytes_t h]
theorem file_len_le (gt : Bool) (c : Nat → Nat) (a b N : Nat) (ha : 1 ≤ a ∧ a ≤ 256) (hb : b ≤ 256) (hab : a * b = N) (hN : N ≤ 16384) : (fileL gt c a b).length ≤ 8 * N + 122 ∧ 54 ≤ (fileL gt c a b).length := by
  obtain ⟨hw1, hw2, hw3, hw4, hw5⟩ := wide_bd gt a ha.2
  have h1 := wide_leH gt a
  have h2 : wideH gt a * b ≤ (4 * a + 4) * b := Nat.mul_le_mul_right b h1
  have h3 : (4 * a + 4) * b = 4 * (a * b) + 4 * b := by rw [Nat.add_mul, Nat.mul_assoc]
  have h4 : 1 * b ≤ a * b := Nat.mul_le_mul_right b ha.1
  have h5 : 40 ≤ sizeH gt := by unfold sizeH; split <;> omega
  rw [fileL_len gt c a b ha.2]
  omega
theorem bmp_file (gt : Bool) (gb cap : Nat) (c : Nat → Nat) (hc : ∀ i, c i < 65536) (a b N : Nat) (hab : a * b = N) (ha : 1 ≤ a ∧ a ≤ 256) (hb : 1 ≤ b ∧ b ≤ 256) (hN : N ≤ 16384) (hz : sizeE a b = 0) (h257 : ∀ i, i < 4 * N → c i % 257 = 0) (hop : gt = !opqB N c) (B : Nat) (w : World)
    (hO : w.ownsRow B 5 1 (.slice (some ⟨gb, 0, none⟩) (fileL gt c a b).length cap) (fileL gt c a b).length (cellsB (fileL gt c a b))) :
    Calls Tryd.prog 8 #[.slice (some ⟨gb, 0, none⟩) (fileL gt c a b).length cap] w fun e w' => ∃ A' cap', e = .returned (.tuple #[.agg #[.int .i64 a, .int .i64 b, .slice A' (4 * N) cap'], .int .i64 0]) ∧ 4 * N ≤ cap' ∧ cap' ≤ maxLen ∧ Pix w' A' (4 * N) c ∧ Below w.heap.size w w' := by
  obtain ⟨h1, h2, h3⟩ := byt_own hO
  have hl := file_len_le gt c a b N ha hb.2 hab hN
  exact bmp_ref gt _ _ cap (gd (fileL gt c a b)) c a b N (file_head gt c hc a b ha.2 hb.2) (fun h => by subst h; exact file_mask c a b) hab ⟨fileL_len gt c a b ha.2, by omega⟩ h1 h2 ha hb hz (fun k x hk hx => file_px gt c a b N ha.2 hab h257 hop k x hk hx) w h3
end Go.Proofs.YthgafdbdmemkhaaDoor

namespace Go.Proofs.YthgafdbdmemkhaaDoor
set_option maxRecDepth 100000
set_option linter.unusedVariables false
open Go.ChangeShapes Go.WideShapes Go.ChangeAt Go.RowKit
theorem own_cell {B : Nat} {w : World} {g n : Nat} {c : Nat → Nat} (h : Own B w (some ⟨g, 0, none⟩) n c) {i : Nat} (hi : i < n) : w.cell? ⟨g, i, none⟩ = some (.int .u16 (c i : Nat)) ∧ w.frozen? ⟨g, i, none⟩ = false ∧ B ≤ g ∧ g < w.heap.size := by
  obtain ⟨g', cur, he, hB, hg, hs, hc⟩ := h (by omega)
  cases he
  exact ⟨hp_cell hg (hc i hi), hp_froz hg i, hB, lt_heap hg⟩
/-- Samples that are bytes. -/
def Byl (c : Nat → Nat) : Prop := ∀ i, c i < 65536 ∧ c i % 257 = 0
theorem Byl.up {c : Nat → Nat} (h : Byl c) {k v : Nat} (hv : v < 65536 ∧ v % 257 = 0) : Byl (up1 c k v) := fun i => by
  unfold up1
  split
  · exact hv
  · exact h i
theorem up_up (c : Nat → Nat) (k u v : Nat) : up1 (up1 c k u) k v = up1 c k v := by
  funext j
  unfold up1
  split <;> rfl
theorem u16_nat (n : Nat) (h : n < 65536) : IntKind.u16.wrap (n : Int) = (n : Int) := by rw [IntKind.wrap_u16]; omega
theorem noise_ari (x : Nat) : ∃ y1 y u v : Nat, u < 65536 ∧ v < 256 ∧ y < 4294967296 ∧ IntKind.u32.wrap ((x : Int) * 1664525) = (y1 : Int) ∧ IntKind.u32.wrap ((y1 : Int) + 1013904223) = (y : Int) ∧ (y : Int) / 65536 = (u : Int) ∧ IntKind.u16.wrap (u : Int) = (u : Int) ∧ (y : Int) / 16777216 = (v : Int) ∧ IntKind.u16.wrap (v : Int) = (v : Int) ∧ IntKind.u16.wrap ((v : Int) * 257) = (v : Int) * 257 := by
  obtain ⟨y1, hy1⟩ : ∃ y1 : Nat, ((x : Int) * 1664525) % 4294967296 = (y1 : Int) := ⟨((x * 1664525) % 4294967296 : Nat), by simp⟩
  obtain ⟨y, hy⟩ : ∃ y : Nat, ((y1 : Int) + 1013904223) % 4294967296 = (y : Int) := ⟨((y1 + 1013904223) % 4294967296 : Nat), by simp⟩
  have hyb : y < 4294967296 := by omega
  have hu : y / 65536 < 65536 := by omega
  have hv : y / 16777216 < 256 := by omega
  refine ⟨y1, y, y / 65536, y / 16777216, hu, hv, hyb, by rw [IntKind.wrap_u32', hy1], by rw [IntKind.wrap_u32', hy], by simp, ?_, by simp, ?_, ?_⟩
  · exact u16_nat _ hu
  · exact u16_nat _ (by omega)
  · have h := u16_nat (y / 16777216 * 257) (by omega)
    rwa [show ((y / 16777216 * 257 : Nat) : Int) = ((y / 16777216 : Nat) : Int) * 257 by simp] at h
theorem by257 {v : Nat} (h : v < 256) : v * 257 < 65536 ∧ v * 257 % 257 = 0 := by omega
end Go.Proofs.YthgafdbdmemkhaaDoor

namespace Go.Proofs.YthgafdbdmemkhaaDoor
set_option maxRecDepth 100000
set_option linter.unusedVariables false
open Go.ChangeShapes Go.WideShapes Go.ChangeAt Go.RowKit

theorem size11 : sizeE ((1 : Nat) : Int) ((1 : Nat) : Int) = 0 := by decide
theorem may11 : mayB ((1 : Nat) : Int) ((1 : Nat) : Int) (4 * 1) = true := by decide
def cW : Nat → Nat := up1 (up1 (fun _ => 0) 2 257) 3 514
theorem cW_byl : Byl cW := (Byl.up (Byl.up (fun i => ⟨by omega, rfl⟩) ⟨by omega, rfl⟩) ⟨by omega, rfl⟩)
theorem same_self19 {a b : Int} {n : Nat} (c : Nat → Nat) (h : mayB a b n = true) : sameB a b n c a b n c = true := by
  simp [sameB, h, allEq]
set_option maxRecDepth 100000 in
set_option maxHeartbeats 4000000 in
theorem awake19 (w : World) : Calls Tryd.prog 4 #[] w fun e w' => e = .returned (.bool true) ∧ Below w.heap.size w w' := by
  go_enter Tryd.func4, Tryd.ntmps4
  go_wp2_with fail
  refine (new_ref (1 : Nat) (1 : Nat) (by unfold In64; omega) (by unfold In64; omega) _).mono ?_
  rintro e w3 ⟨hB, ⟨_, v, rfl, hown⟩ | ⟨h, _⟩⟩
  rotate_left
  · exact absurd size11 h
  have h4N : (4 * ((1 : Nat) : Int) * ((1 : Nat) : Int)).toNat = 4 * 1 := rfl
  rw [h4N, zeros_16] at hown
  obtain ⟨A', cap', rfl, hn', hc', _, hO⟩ := NewRow.of_row hown
  obtain ⟨g, cur, rfl, hgB, _⟩ := hO (by omega)
  have hgr : g < w3.heap.size := (hO.lt g (by omega) rfl).2
  have hal : Below w3.heap.size w3 (w3.alloc (.cells #[.int .i64 1, .int .i64 1, .slice (some ⟨g, 0, none⟩) 4 cap'] 24)) := (Below.refl _ w3).alloc (Nat.le_refl _) _
  have HR4 := Lib.hid (hp_new0 w3 (.cells #[.int .i64 1, .int .i64 1, .slice (some ⟨g, 0, none⟩) 4 cap'] 24))
  have HB5 := Lib.hid (hB.trans (hal.mono hB.size))
  have hO5 := hO.below hal
  have HO5 := Lib.hid hO5
  have hs3 := hB.size
  clear hal hO hB hown
  go_wp2_with fail
  generalize w3.alloc (.cells #[.int .i64 1, .int .i64 1, .slice (some ⟨g, 0, none⟩) 4 cap'] 24) = w5 at *
  obtain ⟨rb, hrb⟩ : ∃ rb, rb = w3.heap.size := ⟨_, rfl⟩
  rw [← hrb] at HR4 hs3 hgr ⊢
  clear hrb
  have k2 := hp_cell (j := 2) HR4.out rfl
  obtain ⟨c2, f2, hgB2, hgl⟩ := own_cell HO5.out (show 2 < 4 * 1 by omega)
  obtain ⟨c3, f3, _, _⟩ := own_cell HO5.out (show 3 < 4 * 1 by omega)
  have hO6 : Own (w.heap.size + 1) (((w5.setCell ⟨g, 2, none⟩ (.int .u16 257)).setCell ⟨g, 3, none⟩ (.int .u16 514)).drew) (some ⟨g, 0, none⟩) (4 * 1) cW := (own_put (own_put HO5.out 2 257) 3 514).below ((Below.refl _ _).drew)
  have hR6 : (((w5.setCell ⟨g, 2, none⟩ (.int .u16 257)).setCell ⟨g, 3, none⟩ (.int .u16 514)).drew).heap[rb]? = some (.cells #[.int .i64 1, .int .i64 1, .slice (some ⟨g, 0, none⟩) 4 cap'] 24 (0, 0)) := hp_oth (hp_oth HR4.out (show ¬rb = g by omega)) (show ¬rb = g by omega)
  have hB6 : Below w.heap.size w (((w5.setCell ⟨g, 2, none⟩ (.int .u16 257)).setCell ⟨g, 3, none⟩ (.int .u16 514)).drew) := ((HB5.out.setCell (p := ⟨g, 2, none⟩) (by simp; omega) (.int .u16 (257 : Nat))).setCell (p := ⟨g, 3, none⟩) (by simp; omega) (.int .u16 (514 : Nat))).drew
  have HO6 := Lib.hid hO6
  have HR6 := Lib.hid hR6
  have HB6 := Lib.hid hB6
  clear hO6 hR6 hB6 hO5
  go_region
  all_goals
    generalize (((w5.setCell ⟨g, 2, none⟩ (.int .u16 257)).setCell ⟨g, 3, none⟩ (.int .u16 514)).drew) = w6 at *
    clear c2 f2 c3 f3 k2
    have k0 := hp_cell (j := 0) HR6.out rfl
    have k1 := hp_cell (j := 1) HR6.out rfl
    have k2 := hp_cell (j := 2) HR6.out rfl
    go_wp2_with fail
    refine (enc_ok 1 1 1 (some ⟨g, 0, none⟩) cap' cW (fun i => (cW_byl i).1) hn' hc' may11 (fits_of may11 (fun i _ => (cW_byl i).2)) rfl ⟨by omega, by omega⟩ ⟨by omega, by omega⟩ (by omega) (fun i _ => (cW_byl i).2) _ (HO6.out.pix)).mono ?_
    rintro e w7 ⟨gb, capb, rfl, hOw, hB7⟩
    have hBM := bmp_file (!opqB 1 cW) gb capb cW (fun i => (cW_byl i).1) 1 1 1 rfl ⟨by omega, by omega⟩ ⟨by omega, by omega⟩ (by omega) size11 (fun i _ => (cW_byl i).2) rfl _ w7 hOw
    obtain ⟨m, hm⟩ : ∃ m, m = (fileL (!opqB 1 cW) cW 1 1).length := ⟨_, rfl⟩
    rw [← hm] at hBM ⊢
    have HBM := Lib.hid hBM
    have hR7 := hp_below HR6.out hB7 (lt_heap HR6.out)
    have HO7 := Lib.hid (HO6.out.below hB7)
    have HB7 := Lib.hid (HB6.out.trans (hB7.mono HB6.out.size))
    have HR7 := Lib.hid hR7
    clear hBM hm hOw hB7 hR7 k0 k1 k2
    go_wp2_with fail
    refine HBM.out.mono ?_
    rintro e w8 ⟨A8, cap8, rfl, hn8, hc8, hP8, hB8⟩
    have hR8 := hp_below HR7.out hB8 (lt_heap HR7.out)
    have hO8 := HO7.out.below hB8
    have hal8 : Below w8.heap.size w8 (w8.alloc (.cells #[.int .i64 1, .int .i64 1, .slice A8 4 cap8] 24)) := (Below.refl _ w8).alloc (Nat.le_refl _) _
    have hQ9 := hp_new0 w8 (.cells #[.int .i64 1, .int .i64 1, .slice A8 4 cap8] 24)
    have hR9 := hp_below hR8 hal8 (lt_heap hR8)
    have hB9 := HB7.out.trans ((hB8.trans (hal8.mono hB8.size)).mono HB7.out.size)
    have HP9 := Lib.hid (hP8.below hal8)
    have HO9 := Lib.hid (hO8.below hal8).pix
    have HB9 := Lib.hid hB9
    have HQ9 := Lib.hid hQ9
    have HR9 := Lib.hid hR9
    have k0 := hp_cell (j := 0) hR9 rfl
    have k1 := hp_cell (j := 1) hR9 rfl
    have k2 := hp_cell (j := 2) hR9 rfl
    have q0 := hp_cell (j := 0) hQ9 rfl
    have q1 := hp_cell (j := 1) hQ9 rfl
    have q2 := hp_cell (j := 2) hQ9 rfl
    clear hR8 hO8 hal8 hQ9 hR9 hB9 hP8 hB8
    go_wp2_with fail
    refine (same_ref (1 : Nat) (1 : Nat) (some ⟨g, 0, none⟩) (4 * 1) cap' cW (1 : Nat) (1 : Nat) A8 (4 * 1) cap8 cW (by unfold In64; omega) (by unfold In64; omega) (by unfold In64; omega) (by unfold In64; omega) hn' hc' hn8 hc8 _ HO9.out HP9.out).mono ?_
    rintro e w10 ⟨rfl, hB10⟩
    rw [same_self19 cW may11]
    have HF := Lib.hid (HB9.out.trans (hB10.mono HB9.out.size))
    clear hB10
    go_wp2
    go_ret
    exact ⟨rfl, HF.out⟩
end Go.Proofs.YthgafdbdmemkhaaDoor
