/- GifreadFrames: the plain law: a file with one frame anywhere on its screen. Arguments that come in: eight bytes. -/
import Derived.Test.YtkjlejkcedemlaaM21

namespace Go.Proofs.Ytkjlejkcedemlaa
set_option maxRecDepth 100000
set_option linter.unusedVariables false

/-- What is ahead of the frame's own colours. -/
def frH (w h le tp fw fh fl cl : Nat) : List Nat := [71, 73, 70, 56, 57, 97, w, 0, h, 0, 129, 0, 0, 1, 2, 3, 4, 5, 6, 7, 8, 9, 10, 11, 12, 33, 249, 4, 1, 0, 0, cl, 0, 44, le, 0, tp, 0, fw, 0, fh, 0, fl]
/-- The frame's own colours. -/
def frT (loc : Bool) : List Nat := if loc = true then [21, 22, 23, 24, 25, 26, 27, 28, 29, 30, 31, 32] else []
def frFl (lac loc : Bool) : Nat := (if lac = true then 64 else 0) + (if loc = true then 129 else 0)
def frF (w h le tp fw fh cl : Nat) (lac loc : Bool) (D : List Nat) : List Nat := frH w h le tp fw fh (frFl lac loc) cl ++ (frT loc ++ ([2] ++ blkV D))
def colF (add : Nat) : List P4 := (List.range 4).map fun j => ((add + 3 * j + 1) * 257, (add + 3 * j + 2) * 257, (add + 3 * j + 3) * 257, 65535)
theorem colF_len (add : Nat) : (colF add).length = 4 := rfl
theorem colF_get (add k : Nat) (h : k < 4) : ((colF add)[k]?).getD (0, 0, 0, 0) = ((add + 3 * k + 1) * 257, (add + 3 * k + 2) * 257, (add + 3 * k + 3) * 257, 65535) := by
  unfold colF
  rw [List.getElem?_map, List.getElem?_range h]
  rfl
theorem frT_len (loc : Bool) : (frT loc).length = if loc = true then 12 else 0 := by cases loc <;> rfl
theorem frF_len (w h le tp fw fh cl : Nat) (lac loc : Bool) (D : List Nat) : (frF w h le tp fw fh cl lac loc D).length = 44 + (if loc = true then 12 else 0) + (blkV D).length := by
  unfold frF
  rw [List.length_append, List.length_append, List.length_append, frT_len]
  show 43 + _ = _
  simp only [List.length_cons, List.length_nil]
  omega
theorem frF_lt {w h le tp fw fh cl : Nat} {lac loc : Bool} {D : List Nat} (h1 : w < 256) (h2 : h < 256) (h3 : le < 256) (h4 : tp < 256) (h5 : fw < 256) (h6 : fh < 256) (h7 : cl < 256) (hD : ∀ v ∈ D, v < 256) : ∀ v ∈ frF w h le tp fw fh cl lac loc D, v < 256 := by
  intro v hv
  have hfl : frFl lac loc < 256 := by unfold frFl; cases lac <;> cases loc <;> decide
  unfold frF frH frT at hv
  rw [List.mem_append, List.mem_append, List.mem_append] at hv
  rcases hv with g | g | g | g
  · simp only [List.mem_cons, List.not_mem_nil, or_false] at g
    omega
  · split at g
    · simp only [List.mem_cons, List.not_mem_nil, or_false] at g
      omega
    · cases g
  · simp only [List.mem_cons, List.not_mem_nil, or_false] at g
    omega
  · exact blkV_lt _ hD v g
theorem draw_some (W fw le tp : Nat) (lac : Bool) (rows : List Nat) (cols : List P4) (cl : Int) : ∀ (ps : List Nat) (i : Nat) (c : Nat → Nat), (∀ v ∈ ps, v < cols.length) → ∃ d, drawG W fw le tp lac rows cols cl ps i c = some d := by
  intro ps
  induction ps with
  | nil => intro i c _; exact ⟨c, rfl⟩
  | cons k ps ih =>
    intro i c h
    have h2 : ∀ v ∈ ps, v < cols.length := fun v hv => h v (List.mem_cons_of_mem _ hv)
    rw [drawG]
    split
    · exact ih _ _ h2
    · rw [if_neg (by have := h k (by simp); omega)]
      exact ih _ _ h2
theorem fr_back {w h le tp fw fh cl : Nat} (lac loc : Bool) {D P : List Nat} (h1 : 1 ≤ w ∧ w ≤ 20) (h2 : 1 ≤ h ∧ h ≤ 20) (hw : le + fw ≤ w) (hh : tp + fh ≤ h) (hf : 1 ≤ fw ∧ 1 ≤ fh) (hc : cl < 256) (hDl : D.length ≤ 100000)
    (hP : P.length = fw * fh) (hD : lzwV (gz D) D.length ((2 : Nat) : Int) ((fw * fh : Nat) : Int) = (P, 0)) (b : Nat → Nat) (n : Nat) (hb : b = gz (frF w h le tp fw fh cl lac loc D)) (hn : n = (frF w h le tp fw fh cl lac loc D).length) :
    lowD b 6 2 = w ∧ lowD b 8 2 = h ∧ gifG b n = (match drawG w fw le tp lac (rowsG fh) (colF (if loc = true then 20 else 0)) (cl : Int) P 0 noP with | none => (noP, 4) | some c => (c, 0)) := by
  have hnl := frF_len w h le tp fw fh cl lac loc D
  rw [← hn] at hnl
  have hbl := blkV_len D
  have hg : ∀ k, k < 43 → b k = gz (frH w h le tp fw fh (frFl lac loc) cl) k := fun k hk => by rw [hb]; exact gz_append_left hk
  have g0 : b 0 = 71 := hg 0 (by omega)
  have g1 : b 1 = 73 := hg 1 (by omega)
  have g2 : b 2 = 70 := hg 2 (by omega)
  have g3 : b 3 = 56 := hg 3 (by omega)
  have g4 : b 4 = 57 := hg 4 (by omega)
  have g5 : b 5 = 97 := hg 5 (by omega)
  have g6 : b 6 = w := hg 6 (by omega)
  have g7 : b 7 = 0 := hg 7 (by omega)
  have g8 : b 8 = h := hg 8 (by omega)
  have g9 : b 9 = 0 := hg 9 (by omega)
  have g10 : b 10 = 129 := hg 10 (by omega)
  have g25 : b 25 = 33 := hg 25 (by omega)
  have g26 : b 26 = 249 := hg 26 (by omega)
  have g33 : b 33 = 44 := hg 33 (by omega)
  have g34 : b 34 = le := hg 34 (by omega)
  have g35 : b 35 = 0 := hg 35 (by omega)
  have g36 : b 36 = tp := hg 36 (by omega)
  have g37 : b 37 = 0 := hg 37 (by omega)
  have g38 : b 38 = fw := hg 38 (by omega)
  have g39 : b 39 = 0 := hg 39 (by omega)
  have g40 : b 40 = fh := hg 40 (by omega)
  have g41 : b 41 = 0 := hg 41 (by omega)
  have g42 : b 42 = frFl lac loc := hg 42 (by omega)
  have l6 : lowD b 6 2 = w := by rw [low_two, g6, g7]; omega
  have l8 : lowD b 8 2 = h := by rw [low_two, g8, g9]; omega
  refine ⟨l6, l8, ?_⟩
  have l34 : lowD b 34 2 = le := by rw [low_two, g34, g35]; omega
  have l36 : lowD b (34 + 2) 2 = tp := by rw [low_two]; show b 36 + 256 * b 37 = tp; rw [g36, g37]; omega
  have l38 : lowD b (34 + 4) 2 = fw := by rw [low_two]; show b 38 + 256 * b 39 = fw; rw [g38, g39]; omega
  have l40 : lowD b (34 + 6) 2 = fh := by rw [low_two]; show b 40 + 256 * b 41 = fh; rw [g40, g41]; omega
  have hsz : sizeE (w : Nat) (h : Nat) = 0 := by
    have : ∀ x : Fin 21, ∀ y : Fin 21, 1 ≤ x.val → 1 ≤ y.val → sizeE (x.val : Nat) (y.val : Nat) = 0 := by decide
    exact this ⟨w, by omega⟩ ⟨h, by omega⟩ h1.1 h2.1
  have hgif : isGif b = true := by
    unfold isGif
    rw [g0, g1, g2, g3, g4, g5]
    decide
  have ht0 : tabC b 13 4 = colF 0 := by
    unfold tabC colF
    refine List.map_congr_left fun j hj => ?_
    have hj4 := List.mem_range.1 hj
    have e : ∀ t, t < 12 → b (13 + t) = t + 1 := fun t ht => by
      rw [hg _ (by omega)]
      have : ∀ x : Fin 12, ∀ w h le tp fw fh fl cl : Nat, gz (frH w h le tp fw fh fl cl) (13 + x.val) = x.val + 1 := fun x w h le tp fw fh fl cl => by
        obtain ⟨x, hx⟩ := x
        show gz (frH w h le tp fw fh fl cl) (13 + x) = x + 1
        obtain rfl | rfl | rfl | rfl | rfl | rfl | rfl | rfl | rfl | rfl | rfl | rfl : x = 0 ∨ x = 1 ∨ x = 2 ∨ x = 3 ∨ x = 4 ∨ x = 5 ∨ x = 6 ∨ x = 7 ∨ x = 8 ∨ x = 9 ∨ x = 10 ∨ x = 11 := by omega
        all_goals rfl
      exact this ⟨t, ht⟩ _ _ _ _ _ _ _ _
    have e0 := e (3 * j) (by omega)
    have e1 := e (3 * j + 1) (by omega)
    have e2 := e (3 * j + 2) (by omega)
    rw [e0, show 13 + 3 * j + 1 = 13 + (3 * j + 1) by omega, e1, show 13 + 3 * j + 2 = 13 + (3 * j + 2) by omega, e2]
    simp only [Nat.zero_add]
  have hsuf : ∀ k, b (43 + k) = gz (frT loc ++ ([2] ++ blkV D)) k := fun k => by rw [hb]; exact gz_at _ _ 43 k rfl
  have hun : unV (fun i => b (27 + i)) (n - 27) = ([1, 0, 0, cl], 6, 0) := by
    have hs : (fun i => b (27 + i)) = gz (blkV [1, 0, 0, cl] ++ ([44, le, 0, tp, 0, fw, 0, fh, 0, frFl lac loc] ++ (frT loc ++ ([2] ++ blkV D)))) := by
      funext i
      rw [blk_four, hb]
      exact gz_at [71, 73, 70, 56, 57, 97, w, 0, h, 0, 129, 0, 0, 1, 2, 3, 4, 5, 6, 7, 8, 9, 10, 11, 12, 33, 249] ([4, 1, 0, 0, cl, 0] ++ ([44, le, 0, tp, 0, fw, 0, fh, 0, frFl lac loc] ++ (frT loc ++ ([2] ++ blkV D)))) 27 i rfl
    have hl : n - 27 = (blkV [1, 0, 0, cl] ++ ([44, le, 0, tp, 0, fw, 0, fh, 0, frFl lac loc] ++ (frT loc ++ ([2] ++ blkV D)))).length := by
      rw [blk_four, hnl]
      simp only [List.length_append, List.length_cons, List.length_nil, frT_len]
      omega
    rw [hs, hl, un_back, blk_four]
    rfl
  have hpix : ∀ cols : List P4, cols ≠ [] → pixG b n (43 + (frT loc).length) w h le tp fw fh lac cols (cl : Int) = (match drawG w fw le tp lac (rowsG fh) cols (cl : Int) P 0 noP with | none => (noP, 4) | some c => (c, 0)) := fun cols hne => by
    have q0 : b (43 + (frT loc).length) = 2 := by rw [hsuf, gz_at0 _ _ _ rfl]; rfl
    have hs : (fun i => b (43 + (frT loc).length + 1 + i)) = gz (blkV D ++ []) := by
      funext i
      rw [List.append_nil, Nat.add_assoc, Nat.add_assoc, hsuf, gz_at _ _ _ _ rfl]
      exact gz_at [2] (blkV D) 1 i rfl
    have hnq : n = 43 + (frT loc).length + 1 + (blkV D).length := by rw [hnl, frT_len]; omega
    have hu : unV (fun i => b (43 + (frT loc).length + 1 + i)) (n - (43 + (frT loc).length + 1)) = (D, (blkV D).length, 0) := by
      rw [hs, show n - (43 + (frT loc).length + 1) = (blkV D ++ []).length by rw [List.append_nil]; omega]
      exact un_back D []
    unfold pixG
    rw [if_neg hne, if_neg (by omega), q0, if_neg (by omega), hu]
    dsimp only
    rw [if_neg (by simp), hD]
    dsimp only
    rw [if_neg (by simp), if_neg (by omega)]
    cases drawG w fw le tp lac (rowsG fh) cols (cl : Int) P 0 noP <;> rfl
  have hgo : gifG b n = frameG b n 34 w h (colF 0) (cl : Int) := by
    unfold gifG
    rw [if_neg (by split at hnl <;> omega), if_neg (by omega), if_neg (by rw [hgif]; simp), l6, l8, if_neg (by rw [hsz]; simp), g10, if_pos (by omega)]
    rw [show (2 : Nat) ^ (129 % 8 + 1) = 4 from rfl, if_neg (by omega), ht0]
    rw [show 13 + 3 * 4 = 25 from rfl]
    rw [partsG, if_neg (by omega), g25, if_neg (by omega), if_neg (by omega), if_neg (by omega), show 25 + 2 = 27 from rfl, hun]
    dsimp only
    rw [if_neg (by simp), show 25 + 1 = 26 from rfl, g26, if_pos rfl, if_neg (by simp)]
    have hgx : (if gz [1, 0, 0, cl] 0 % 2 = 1 then ((gz [1, 0, 0, cl] 3 : Nat) : Int) else -1) = (cl : Int) := by
      have a0 : gz [1, 0, 0, cl] 0 = 1 := rfl
      have a3 : gz [1, 0, 0, cl] 3 = cl := rfl
      rw [a0, a3, if_pos (by omega)]
    rw [hgx, show 27 + 6 = 33 from rfl]
    obtain ⟨K, hK⟩ : ∃ K, n = K + 1 := ⟨n - 1, by omega⟩
    conv => lhs; arg 6; rw [hK]
    rw [partsG, if_neg (by omega), if_pos g33]
  rw [hgo]
  unfold frameG
  rw [if_neg (by omega), l34, l36, l38, l40, if_neg (by omega), show 34 + 8 = 42 from rfl, g42]
  have hlac : decide (frFl lac loc / 64 % 2 = 1) = lac := by cases lac <;> cases loc <;> rfl
  rw [hlac]
  cases hloc : loc with
  | true =>
    subst hloc
    rw [if_pos (by cases lac <;> rfl)]
    have e3 : frFl lac true % 8 + 1 = 2 := by cases lac <;> rfl
    rw [e3, show (2 : Nat) ^ 2 = 4 from rfl, show 34 + 9 = 43 from rfl, if_neg (by simp at hnl; omega)]
    have ht : tabC b 43 4 = colF 20 := by
      unfold tabC colF
      refine List.map_congr_left fun j hj => ?_
      have hj4 := List.mem_range.1 hj
      have e : ∀ t, t < 12 → b (43 + t) = 20 + t + 1 := fun t ht => by
        rw [hsuf, gz_append_left (by rw [frT_len]; simpa using ht)]
        obtain rfl | rfl | rfl | rfl | rfl | rfl | rfl | rfl | rfl | rfl | rfl | rfl : t = 0 ∨ t = 1 ∨ t = 2 ∨ t = 3 ∨ t = 4 ∨ t = 5 ∨ t = 6 ∨ t = 7 ∨ t = 8 ∨ t = 9 ∨ t = 10 ∨ t = 11 := by omega
        all_goals rfl
      have e0 := e (3 * j) (by omega)
      have e1 := e (3 * j + 1) (by omega)
      have e2 := e (3 * j + 2) (by omega)
      rw [e0, show 43 + 3 * j + 1 = 43 + (3 * j + 1) by omega, e1, show 43 + 3 * j + 2 = 43 + (3 * j + 2) by omega, e2]
      rfl
    rw [ht]
    exact hpix (colF 20) (by simp [colF])
  | false =>
    subst hloc
    rw [if_neg (by cases lac <;> decide), show 34 + 9 = 43 from rfl]
    exact hpix (colF 0) (by simp [colF])
end Go.Proofs.Ytkjlejkcedemlaa

namespace Go.Proofs.Ytkjlejkcedemlaa
set_option maxRecDepth 100000
set_option linter.unusedVariables false
open Go.ChangeShapes Go.WideShapes Go.ChangeAt Go.RowKit

section
variable {H : Type} {enc : TypeId × Value → H} {W : World}
theorem wfe8 {a : Int} (h : Lit.wf (.int .u8 a) = true) : 0 ≤ a ∧ a ≤ 255 := by simpa [Lit.wf, IntKind.min, IntKind.max, IntKind.signed, IntKind.bits] using h
theorem open_t8 {r : Reach} {b0 : Nat} {v : Value} {d : DataW H} {p : List MemPlace} (hv : Value.okWide Try.prog W r b0 41 v) (h : DataW.Trod enc Try.prog W 0 (fun _ => true) true 41 v d p) :
    ∃ x0 x1 x2 x3 x4 x5 x6 x7 : Nat, v = .agg #[.int .u8 (x0 : Nat), .int .u8 (x1 : Nat), .int .u8 (x2 : Nat), .int .u8 (x3 : Nat), .int .u8 (x4 : Nat), .int .u8 (x5 : Nat), .int .u8 (x6 : Nat), .int .u8 (x7 : Nat)] ∧ x0 < 256 ∧ x1 < 256 ∧ x2 < 256 ∧ x3 < 256 ∧ x4 < 256 ∧ x5 < 256 ∧ x6 < 256 ∧ x7 < 256 := by
  obtain ⟨cs, rfl, hsz⟩ := okWide_arr Try.underlying41 hv
  rw [show Try.prog.cellsOf 41 = 8 from by kernel_rfl] at hsz
  obtain ⟨fuel, hf⟩ := h
  obtain ⟨xs, m, _, _, _, hx, hg⟩ := DataW.trod_array Try.underlying41 hf
  have cz : Try.prog.cellsOf 5 = 1 := by kernel_rfl
  match cs, hsz with
  | ⟨[c0, c1, c2, c3, c4, c5, c6, c7]⟩, _ =>
    have g0 := hg 0 (by omega)
    have g1 := hg 1 (by omega)
    have g2 := hg 2 (by omega)
    have g3 := hg 3 (by omega)
    have g4 := hg 4 (by omega)
    have g5 := hg 5 (by omega)
    have g6 := hg 6 (by omega)
    have g7 := hg 7 (by omega)
    simp only [cz, Value.cells, List.drop_zero, Nat.one_mul, Nat.zero_mul, List.drop_succ_cons, List.take_succ_cons, List.take_zero] at g0 g1 g2 g3 g4 g5 g6 g7
    rw [List.getElem?_eq_getElem (by omega)] at g0 g1 g2 g3 g4 g5 g6 g7
    obtain ⟨a0, h0, _, w0⟩ := DataW.trod_int Try.underlying5 g0
    obtain ⟨a1, h1, _, w1⟩ := DataW.trod_int Try.underlying5 g1
    obtain ⟨a2, h2, _, w2⟩ := DataW.trod_int Try.underlying5 g2
    obtain ⟨a3, h3, _, w3⟩ := DataW.trod_int Try.underlying5 g3
    obtain ⟨a4, h4, _, w4⟩ := DataW.trod_int Try.underlying5 g4
    obtain ⟨a5, h5, _, w5⟩ := DataW.trod_int Try.underlying5 g5
    obtain ⟨a6, h6, _, w6⟩ := DataW.trod_int Try.underlying5 g6
    obtain ⟨a7, h7, _, w7⟩ := DataW.trod_int Try.underlying5 g7
    simp at h0 h1 h2 h3 h4 h5 h6 h7
    subst h0 h1 h2 h3 h4 h5 h6 h7
    have q0 := wfe8 w0
    have q1 := wfe8 w1
    have q2 := wfe8 w2
    have q3 := wfe8 w3
    have q4 := wfe8 w4
    have q5 := wfe8 w5
    have q6 := wfe8 w6
    have q7 := wfe8 w7
    obtain ⟨x0, rfl⟩ := Int.eq_ofNat_of_zero_le q0.1
    obtain ⟨x1, rfl⟩ := Int.eq_ofNat_of_zero_le q1.1
    obtain ⟨x2, rfl⟩ := Int.eq_ofNat_of_zero_le q2.1
    obtain ⟨x3, rfl⟩ := Int.eq_ofNat_of_zero_le q3.1
    obtain ⟨x4, rfl⟩ := Int.eq_ofNat_of_zero_le q4.1
    obtain ⟨x5, rfl⟩ := Int.eq_ofNat_of_zero_le q5.1
    obtain ⟨x6, rfl⟩ := Int.eq_ofNat_of_zero_le q6.1
    obtain ⟨x7, rfl⟩ := Int.eq_ofNat_of_zero_le q7.1
    exact ⟨x0, x1, x2, x3, x4, x5, x6, x7, rfl, by omega, by omega, by omega, by omega, by omega, by omega, by omega, by omega⟩
end
end Go.Proofs.Ytkjlejkcedemlaa
