/- GIF's pieces: the plain law; slices of bytes. -/
import Derived.Test.YtioghgnngdcicaaLzO
namespace Go.Proofs.Ytioghgnngdcicaa
set_option linter.unusedVariables false
open Go.ChangeShapes Go.WideShapes Go.ChangeAt Go.RowKit

/-- Bytes cut into pieces. -/
def blkF : Nat → List Nat → List Nat
  | 0, _ => []
  | k + 1, l => if l = [] then [] else min l.length 255 :: (l.take 255 ++ blkF k (l.drop 255))
def blkV (l : List Nat) : List Nat := blkF l.length l ++ [0]
theorem blkF_nil (k : Nat) : blkF k [] = [] := by cases k <;> simp [blkF]
theorem blkF_fuel : ∀ (k m : Nat) (l : List Nat), l.length ≤ k → l.length ≤ m → blkF k l = blkF m l
  | 0, m, l, h1, _ => by rw [List.eq_nil_of_length_eq_zero (by omega : l.length = 0), blkF_nil, blkF_nil]
  | k, 0, l, _, h2 => by rw [List.eq_nil_of_length_eq_zero (by omega : l.length = 0), blkF_nil, blkF_nil]
  | k + 1, m + 1, l, h1, h2 => by
    rw [blkF, blkF]
    by_cases h : l = []
    · rw [if_pos h, if_pos h]
    · have hp := List.length_pos_iff.2 h
      rw [if_neg h, if_neg h, blkF_fuel k m (l.drop 255) (by rw [List.length_drop]; omega) (by rw [List.length_drop]; omega)]
theorem blkF_step {k : Nat} {l : List Nat} (h : l.length ≤ k) (hne : l ≠ []) : blkF k l = min l.length 255 :: (l.take 255 ++ blkF (l.drop 255).length (l.drop 255)) := by
  have hp := List.length_pos_iff.2 hne
  obtain ⟨k, rfl⟩ : ∃ j, k = j + 1 := ⟨k - 1, by omega⟩
  rw [blkF, if_neg hne, blkF_fuel k (l.drop 255).length (l.drop 255) (by rw [List.length_drop]; omega) (Nat.le_refl _)]
theorem blkF_len : ∀ (k : Nat) (l : List Nat), (blkF k l).length ≤ 2 * l.length
  | 0, l => by simp [blkF]
  | k + 1, l => by
    rw [blkF]
    by_cases h : l = []
    · rw [if_pos h]; simp
    · have hp := List.length_pos_iff.2 h
      have := blkF_len k (l.drop 255)
      rw [if_neg h, List.length_cons, List.length_append, List.length_take]
      rw [List.length_drop] at this
      omega
theorem blkF_lt : ∀ (k : Nat) (l : List Nat), (∀ v ∈ l, v < 256) → ∀ v ∈ blkF k l, v < 256
  | 0, l, _, v, hv => by simp [blkF] at hv
  | k + 1, l, hl, v, hv => by
    rw [blkF] at hv
    split at hv
    · cases hv
    · rcases List.mem_cons.1 hv with h | h
      · omega
      · rcases List.mem_append.1 h with h | h
        · exact hl v (List.mem_of_mem_take h)
        · exact blkF_lt k _ (fun u hu => hl u (List.mem_of_mem_drop hu)) v h
theorem blkV_len (l : List Nat) : (blkV l).length ≤ 2 * l.length + 1 := by
  have := blkF_len l.length l
  unfold blkV
  rw [List.length_append, List.length_singleton]
  omega
theorem blkV_lt (l : List Nat) (h : ∀ v ∈ l, v < 256) : ∀ v ∈ blkV l, v < 256 := fun v hv => by
  rcases List.mem_append.1 hv with h1 | h1
  · exact blkF_lt _ _ h v h1
  · simp at h1; omega
/-- Pieces joined: the bytes, how many they took, the error. -/
def unF (b : Nat → Nat) (n : Nat) : Nat → Nat → List Nat → List Nat × Nat × Nat
  | 0, _, _ => ([], 0, 2)
  | k + 1, at_, out =>
    if n ≤ at_ then ([], 0, 2)
    else if b at_ = 0 then (out, at_ + 1, 0)
    else if n - (at_ + 1) < b at_ then ([], 0, 2)
    else unF b n k (at_ + 1 + b at_) (out ++ (List.range (b at_)).map fun i => b (at_ + 1 + i))
def unV (b : Nat → Nat) (n : Nat) : List Nat × Nat × Nat := unF b n (n + 1) 0 []
theorem gz_append_left {l c : List Nat} {i : Nat} (h : i < l.length) : gz (l ++ c) i = gz l i := by
  unfold gz
  rw [List.getElem?_append_left h]
theorem gz_append_right (l c : List Nat) (i : Nat) : gz (l ++ c) (l.length + i) = gz c i := by
  unfold gz
  rw [List.getElem?_append_right (by omega), Nat.add_sub_cancel_left]
theorem range_gz {l c : List Nat} {m : Nat} (h : m ≤ l.length) : (List.range m).map (gz (l ++ c)) = l.take m := by
  apply List.ext_getElem?
  intro j
  by_cases hj : j < m
  · simp only [List.getElem?_map, List.getElem?_range hj, Option.map_some, List.getElem?_take, if_pos hj]
    unfold gz
    rw [List.getElem?_append_left (by omega), List.getElem?_eq_getElem (by omega)]
    rfl
  · rw [List.getElem?_eq_none (by simp; omega), List.getElem?_eq_none (by rw [List.length_take]; omega)]
theorem un_blk : ∀ (N : Nat) (rest pre out c : List Nat) (K : Nat), rest.length ≤ N → rest.length < K → unF (gz (pre ++ (blkF rest.length rest ++ [0]) ++ c)) (pre ++ (blkF rest.length rest ++ [0]) ++ c).length K pre.length out = (out ++ rest, pre.length + (blkF rest.length rest).length + 1, 0) := by
  intro N
  induction N with
  | zero =>
    intro rest pre out c K h hK
    rw [List.eq_nil_of_length_eq_zero (by omega : rest.length = 0)]
    obtain ⟨K, rfl⟩ : ∃ j, K = j + 1 := ⟨K - 1, by omega⟩
    have hb : gz (pre ++ ([] ++ [0]) ++ c) pre.length = 0 := by
      rw [List.append_assoc]
      have := gz_append_right pre ([] ++ [0] ++ c) 0
      rw [Nat.add_zero] at this
      rw [this]
      rfl
    rw [blkF_nil, unF, if_neg (by simp), if_pos hb]
    simp
  | succ N ih =>
    intro rest pre out c K h hK
    by_cases hne : rest = []
    · subst hne
      exact ih [] pre out c K (by simp) hK
    · have hp := List.length_pos_iff.2 hne
      obtain ⟨K, rfl⟩ : ∃ j, K = j + 1 := ⟨K - 1, by omega⟩
      rw [blkF_step (Nat.le_refl _) hne]
      obtain ⟨m, hm⟩ : ∃ m, m = min rest.length 255 := ⟨_, rfl⟩
      obtain ⟨r2, hr2⟩ : ∃ r2, r2 = rest.drop 255 := ⟨_, rfl⟩
      have htk : rest.take 255 = rest.take m := by
        rw [hm]
        by_cases hq : rest.length ≤ 255
        · rw [Nat.min_eq_left hq, List.take_of_length_le hq, List.take_length]
        · rw [Nat.min_eq_right (by omega)]
      have hml : (rest.take m).length = m := by rw [List.length_take]; omega
      have hr2l : r2.length + m = rest.length := by rw [hr2, List.length_drop, hm]; omega
      rw [htk, ← hm, ← hr2]
      have hB : pre ++ (m :: (rest.take m ++ blkF r2.length r2) ++ [0]) ++ c = (pre ++ m :: rest.take m) ++ (blkF r2.length r2 ++ [0]) ++ c := by simp
      have hB2 : pre ++ (m :: (rest.take m ++ blkF r2.length r2) ++ [0]) ++ c = pre ++ ([m] ++ (rest.take m ++ (blkF r2.length r2 ++ [0] ++ c))) := by simp
      have e1 : gz (pre ++ (m :: (rest.take m ++ blkF r2.length r2) ++ [0]) ++ c) pre.length = m := by
        rw [hB2]
        have := gz_append_right pre ([m] ++ (rest.take m ++ (blkF r2.length r2 ++ [0] ++ c))) 0
        rw [Nat.add_zero] at this
        rw [this]
        rfl
      have e2 : (List.range m).map (fun i => gz (pre ++ (m :: (rest.take m ++ blkF r2.length r2) ++ [0]) ++ c) (pre.length + 1 + i)) = rest.take m := by
        rw [hB2, ← List.append_assoc pre [m]]
        have : (fun i => gz (pre ++ [m] ++ (rest.take m ++ (blkF r2.length r2 ++ [0] ++ c))) (pre.length + 1 + i)) = gz (rest.take m ++ (blkF r2.length r2 ++ [0] ++ c)) := by
          funext i
          have := gz_append_right (pre ++ [m]) (rest.take m ++ (blkF r2.length r2 ++ [0] ++ c)) i
          rw [List.length_append, List.length_singleton] at this
          exact this
        rw [this, range_gz (by omega)]
        rw [List.take_of_length_le (by omega)]
      have hlen : (pre ++ (m :: (rest.take m ++ blkF r2.length r2) ++ [0]) ++ c).length = pre.length + 1 + m + (blkF r2.length r2).length + 1 + c.length := by
        rw [hB]
        simp [hml]
        omega
      have hm0 : m ≠ 0 := by omega
      rw [unF, if_neg (by rw [hlen]; omega), e1, if_neg hm0, if_neg (by rw [hlen]; omega), e2, hB]
      have hpl : pre.length + 1 + m = (pre ++ m :: rest.take m).length := by simp [hml]; omega
      rw [hpl, ih r2 (pre ++ m :: rest.take m) (out ++ rest.take m) c K (by omega) (by omega)]
      have hrest : rest.take m ++ r2 = rest := by rw [← htk, hr2, List.take_append_drop]
      rw [List.append_assoc, hrest]
      simp [hml]
      omega
/-- What was cut is joined again, whatever lies behind it. -/
theorem un_back (l c : List Nat) : unV (gz (blkV l ++ c)) (blkV l ++ c).length = (l, (blkV l).length, 0) := by
  have h := un_blk l.length l [] [] c ((blkV l ++ c).length + 1) (Nat.le_refl _) (by
    have : l.length ≤ (blkF l.length l).length := by
      have key : ∀ (k : Nat) (l : List Nat), l.length ≤ k → l.length ≤ (blkF k l).length := by
        intro k
        induction k with
        | zero => intro l h; omega
        | succ k ih =>
          intro l h
          rw [blkF]
          by_cases hne : l = []
          · rw [if_pos hne, hne]; simp
          · have := ih (l.drop 255) (by rw [List.length_drop]; have := List.length_pos_iff.2 hne; omega)
            rw [if_neg hne, List.length_cons, List.length_append, List.length_take]
            rw [List.length_drop] at this
            omega
      exact key _ _ (Nat.le_refl _)
    unfold blkV
    simp
    omega)
  unfold unV
  have e : ([] : List Nat) ++ (blkF l.length l ++ [0]) ++ c = blkV l ++ c := by simp [blkV]
  rw [e] at h
  rw [show (0 : Nat) = ([] : List Nat).length from rfl, h]
  simp [blkV]
theorem run_lo (A : Option Addr) (n cap q : Nat) (hq : q ≤ n) (W : World) :
    (Instr.sliceAt 22 (.slice A n cap) (some (.int .i64 (q : Nat))) none none).run Try.prog W = .ok (.slice (if cap = q then A else A.map (·.add q)) (n - q) (cap - q)) W := by
  rw [run_sliceAt_slice _ _ _ _ _ _ und_u8b, run_slice_l W 22 A n cap und_u8b .i64 (q : Nat) (by omega) (by omega), elem_u8b, size_u8b]
  simp [Result.andThen, sliced]
theorem run_hi (A : Option Addr) (n cap q : Nat) (hq : q ≤ cap) (W : World) :
    (Instr.sliceAt 22 (.slice A n cap) none (some (.int .i64 (q : Nat))) none).run Try.prog W = .ok (.slice A q cap) W := by
  rw [run_sliceAt_slice _ _ _ _ _ _ und_u8b, run_slice_h W 22 A n cap und_u8b .i64 (q : Nat) (by omega) (by omega), elem_u8b, size_u8b]
  by_cases h0 : cap = 0
  · simp [Result.andThen, sliced, h0]
  · cases A with
    | none => simp [Result.andThen, sliced, h0]
    | some a => obtain ⟨x, y, z⟩ := a; simp [Result.andThen, sliced, h0, Addr.add]
theorem run_mid (A : Option Addr) (n cap q k : Nat) (hk : q + k ≤ cap) (W : World) :
    (Instr.sliceAt 22 (.slice A n cap) (some (.int .i64 (q : Nat))) (some (.int .i64 ((q : Int) + (k : Int)))) none).run Try.prog W = .ok (.slice (if cap = q then A else A.map (·.add q)) k (cap - q)) W := by
  rw [run_sliceAt_slice _ _ _ _ _ _ und_u8b, run_slice_lh W 22 A n cap und_u8b .i64 .i64 (q : Nat) ((q : Int) + (k : Int)) (by omega) (by omega) (by omega), elem_u8b, size_u8b]
  simp only [Result.andThen, sliced, Nat.mul_one]
  congr 2
  omega
/-- A slice of bytes from its q-th on. -/
theorem Byt.from {w : World} {A : Option Addr} {n cap : Nat} {b : Nat → Nat} (h : Byt w A n b) (hn : n ≤ cap) {q k : Nat} (hq : q + k ≤ n) : Byt w (if cap = q then A else A.map (·.add q)) k (fun i => b (q + i)) := fun hk => by
  obtain ⟨bk, off, rfl, hlt, hc⟩ := h (by omega)
  rw [if_neg (by omega)]
  refine ⟨bk, off + q, by simp [Addr.add], hlt, fun j hj => ?_⟩
  have := hc (q + j) (by omega)
  rw [← Nat.add_assoc] at this
  exact this
theorem nil_from {A : Option Addr} {cap q : Nat} (hz : A = none → cap = 0) : (if cap = q then A else A.map (·.add q)) = none → cap - q = 0 := fun h => by
  split at h
  · omega
  · cases A with
    | none => have := hz rfl; omega
    | some a => cases h
/-- A byte behind a row of one's own, however long. -/
theorem app_byteL {W : World} {base : Nat} {v : Value} {l : List Nat} {x B : Nat} (h : W.ownsRow base 5 1 v l.length (cellsB l)) (hx : W.cell? ⟨B, 0, none⟩ = some (.int .u8 (x : Nat))) (hl : l.length ≤ 2000000) (hb : base ≤ W.heap.size) :
    ∃ v' W1, (Builtin.append_ #[22, 22] 22 #[v, .slice (some ⟨B, 0, none⟩) 1 1]).run Try.prog W = .ok v' W1 ∧ W1.ownsRow base 5 1 v' (l ++ [x]).length (cellsB (l ++ [x])) ∧ W.grownBy W1 v.ownBlock := by
  obtain ⟨i0, hi, hz0, hz1, hz2⟩ := info_parts info8
  obtain ⟨v', W1, hr, ho, hg, hat⟩ := run_app (P := Try.prog) (w := W) base 22 22 5 i0 (.int .u8 0) 1 1 Try.underlying22 hi hz0 hz1 hz2 rfl (by omega) v l.length (cellsB l) h
    (some ⟨B, 0, none⟩) 1 1 [.int .u8 (x : Nat)] (by simp) rfl (fun _ => ⟨B, 0, rfl, fun j u hj => by
      match j, hj with
      | 0, hj => simp at hj; subst hj; exact hx
      | j + 1, hj => simp at hj⟩) (by intro u hu; simp at hu; subst hu; rfl) (by unfold maxLen; omega) (by omega) hb
  rw [← cellsB_snoc] at ho
  exact ⟨v', W1, hr, own_len (by simp) ho, hg⟩
end Go.Proofs.Ytioghgnngdcicaa
