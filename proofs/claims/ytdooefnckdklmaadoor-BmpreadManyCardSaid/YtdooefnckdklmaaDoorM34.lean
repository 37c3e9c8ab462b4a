/- Numbers of 32 bits that came in: four, and a row of them. Numbers of 16 or 32 bits under any masks: the file's bytes, and what decoding it draws. Numbers of 16 or 32 bits under any masks: what decoding draws. The file of numbers under masks is such a file. BmpreadMany: the walk's states. -/
import Derived.Test.YtdooefnckdklmaaDoorM33

namespace Go.Proofs.YtdooefnckdklmaaDoor
set_option maxRecDepth 100000
set_option linter.unusedVariables false
open Go.ChangeShapes Go.WideShapes Go.ChangeAt Go.RowKit

/-- A row of numbers of 32 bits lies there. -/
def U32s (w : World) (A : Option Addr) (m : Nat) (d : Nat → Nat) : Prop :=
  0 < m → ∃ b off, A = some ⟨b, off, none⟩ ∧ b < w.heap.size ∧ ∀ j, j < m → w.cell? ⟨b, off + j, none⟩ = some (.int .u32 (d j : Nat))
theorem U32s.below {w w' : World} {A : Option Addr} {m : Nat} {d : Nat → Nat} (h : U32s w A m d) (hb : Below w.heap.size w w') : U32s w' A m d := fun hm => by
  obtain ⟨b, off, h1, h2, h3⟩ := h hm
  exact ⟨b, off, h1, Nat.lt_of_lt_of_le h2 hb.size, fun j hj => by rw [hb.cell (by exact h2)]; exact h3 j hj⟩
theorem wf32' {a : Int} (h : (Lit.int .u32 a).wf = true) : 0 ≤ a ∧ a ≤ 4294967295 := by
  simpa [Lit.wf, IntKind.min, IntKind.max, IntKind.signed, IntKind.bits] using h
section
variable {H : Type} {enc : TypeId × Value → H} {W : World}
theorem open_w4 {r : Reach} {b0 : Nat} {v : Value} {d : DataW H} {p : List MemPlace} (hv : Value.okWide Tryd.prog W r b0 57 v) (h : DataW.Trod enc Tryd.prog W 0 (fun _ => true) true 57 v d p) :
    ∃ q : P4, v = .agg #[.int .u32 (q.1 : Nat), .int .u32 (q.2.1 : Nat), .int .u32 (q.2.2.1 : Nat), .int .u32 (q.2.2.2 : Nat)] ∧ q.1 < 4294967296 ∧ q.2.1 < 4294967296 ∧ q.2.2.1 < 4294967296 ∧ q.2.2.2 < 4294967296 := by
  obtain ⟨cs, rfl, hsz⟩ := okWide_arr Tryd.underlying57 hv
  rw [show Tryd.prog.cellsOf 57 = 4 from by kernel_rfl] at hsz
  obtain ⟨fuel, hf⟩ := h
  obtain ⟨xs, m, _, _, _, hx, hg⟩ := DataW.trod_array Tryd.underlying57 hf
  have c3 : Tryd.prog.cellsOf 34 = 1 := by kernel_rfl
  match cs, hsz with
  | ⟨[c0, c1, c2, c3']⟩, _ =>
    have g0 := hg 0 (by omega)
    have g1 := hg 1 (by omega)
    have g2 := hg 2 (by omega)
    have g3 := hg 3 (by omega)
    simp only [c3, Value.cells, List.drop_zero, Nat.one_mul, Nat.zero_mul, Nat.reduceMul, List.drop_succ_cons, List.take_succ_cons, List.take_zero] at g0 g1 g2 g3
    rw [List.getElem?_eq_getElem (by omega)] at g0 g1 g2 g3
    obtain ⟨a, ha, _, hwa⟩ := DataW.trod_int Tryd.underlying34 g0
    obtain ⟨b, hb, _, hwb⟩ := DataW.trod_int Tryd.underlying34 g1
    obtain ⟨c, hc, _, hwc⟩ := DataW.trod_int Tryd.underlying34 g2
    obtain ⟨d', hd, _, hwd⟩ := DataW.trod_int Tryd.underlying34 g3
    simp at ha hb hc hd
    subst ha hb hc hd
    have wa := wf32' hwa
    have wb := wf32' hwb
    have wc := wf32' hwc
    have wd := wf32' hwd
    obtain ⟨a, rfl⟩ := Int.eq_ofNat_of_zero_le wa.1
    obtain ⟨b, rfl⟩ := Int.eq_ofNat_of_zero_le wb.1
    obtain ⟨c, rfl⟩ := Int.eq_ofNat_of_zero_le wc.1
    obtain ⟨d', rfl⟩ := Int.eq_ofNat_of_zero_le wd.1
    exact ⟨(a, b, c, d'), rfl, by simp only; omega⟩
theorem open_u32s {r : Reach} {b0 : Nat} {v : Value} {d : DataW H} {p : List MemPlace} (hv : Value.okWide Tryd.prog W r b0 58 v) (h : DataW.Trod enc Tryd.prog W 0 (fun _ => true) true 58 v d p) :
    ∃ A m cap d, v = .slice A m cap ∧ m ≤ cap ∧ cap ≤ maxLen ∧ (A = none → cap = 0) ∧ U32s W A m d ∧ ∀ i, d i < 4294967296 := by
  obtain ⟨a0, len, cap0, rfl⟩ := okWide_slice Tryd.underlying58 hv
  obtain ⟨fuel, hf⟩ := h
  obtain ⟨n, E, hS, hE, hr, hnone⟩ := open_sl1 Tryd.underlying58 (size := 1) (by kernel_rfl) (by decide) (v := .slice a0 len cap0) hf
  have hS2 := hS
  obtain ⟨_, A, cap, he, g1, g2, _⟩ := hS2
  cases he
  have h1 : ∀ i, i < len → ∃ m : Nat, E i = [.int .u32 (m : Nat)] ∧ m < 4294967296 := fun i hi => by
    obtain ⟨fuel, y, hy⟩ := hr i hi
    obtain ⟨k, hk, _, hw⟩ := DataW.trod_int Tryd.underlying34 hy
    obtain ⟨q1, q2⟩ := wf32' hw
    obtain ⟨m, rfl⟩ := Int.eq_ofNat_of_zero_le q1
    exact ⟨m, hk, by omega⟩
  obtain ⟨c, hc⟩ := Go.Deep.choose_lt (α := Nat) h1
  refine ⟨a0, len, cap0, fun i => if i < len then c i else 0, rfl, g1, g2, fun h => by subst h; exact hnone _ _ rfl, fun hn => ?_, fun i => ?_⟩
  · obtain ⟨b, off, rfl, hb, hcell⟩ := hS.cell hn
    refine ⟨b, off, rfl, hb, fun j hj => ?_⟩
    rw [hcell j (by omega)]
    have h2 := flat_get (n := len) E hE j 0 hj (by omega)
    rw [Nat.mul_one, Nat.add_zero] at h2
    rw [h2, (hc j hj).1]
    simp [hj]
  · show (if i < len then c i else 0) < 4294967296
    split
    · exact (hc i ‹_›).2
    · omega
end
end Go.Proofs.YtdooefnckdklmaaDoor

namespace Go.Proofs.YtdooefnckdklmaaDoor
set_option maxRecDepth 100000
set_option linter.unusedVariables false
open Go.ChangeShapes Go.WideShapes Go.ChangeAt Go.RowKit

def psM (N bits : Nat) (f : Nat → Nat) : List (Nat × Nat) := [(10, 122), (14, 108), (18, N), (22, 1), (26, 1 + bits * 65536), (30, 3), (54, f 0), (58, f 1), (62, f 2), (66, f 3)]
/-- The head's bytes. -/
theorem hF_M (N bits : Nat) (f : Nat → Nat) (hN : N ≤ 200) (hb : bits ≤ 32) (hf : ∀ i, f i < 4294967296) : hF (psM N bits f) 0 = 66 ∧ hF (psM N bits f) 1 = 77 ∧ lowD (hF (psM N bits f)) 10 4 = 122 ∧ lowD (hF (psM N bits f)) 14 4 = 108 ∧ lowD (hF (psM N bits f)) 18 4 = N ∧ lowD (hF (psM N bits f)) 22 4 = 1 ∧ lowD (hF (psM N bits f)) 26 2 = 1 ∧ lowD (hF (psM N bits f)) 28 2 = bits ∧ lowD (hF (psM N bits f)) 30 4 = 3 ∧ (∀ i, i < 4 → lowD (hF (psM N bits f)) (54 + 4 * i) 4 = f i) := by
  have q26 := hb_low (psM N bits f) 26 (1 + bits * 65536) [(10, 122), (14, 108), (18, N), (22, 1)] _ rfl (by intro q hq; simp at hq; rcases hq with rfl | rfl | rfl | rfl | rfl <;> simp) (by omega)
  refine ⟨hb_0 _ _ (by intro q hq; simp [psM] at hq; rcases hq with rfl | rfl | rfl | rfl | rfl | rfl | rfl | rfl | rfl | rfl <;> simp), hb_0 _ _ (by intro q hq; simp [psM] at hq; rcases hq with rfl | rfl | rfl | rfl | rfl | rfl | rfl | rfl | rfl | rfl <;> simp), ?_, ?_, ?_, ?_, q26.2.1.trans (by omega), q26.2.2.trans (by omega), ?_, fun i hi => ?_⟩
  · exact (hb_low (psM N bits f) 10 (122) [] _ rfl (by intro q hq; simp at hq; rcases hq with rfl | rfl | rfl | rfl | rfl | rfl | rfl | rfl | rfl <;> simp) (by omega)).1
  · exact (hb_low (psM N bits f) 14 (108) [(10, 122)] _ rfl (by intro q hq; simp at hq; rcases hq with rfl | rfl | rfl | rfl | rfl | rfl | rfl | rfl <;> simp) (by omega)).1
  · exact (hb_low (psM N bits f) 18 (N) [(10, 122), (14, 108)] _ rfl (by intro q hq; simp at hq; rcases hq with rfl | rfl | rfl | rfl | rfl | rfl | rfl <;> simp) (by omega)).1
  · exact (hb_low (psM N bits f) 22 (1) [(10, 122), (14, 108), (18, N)] _ rfl (by intro q hq; simp at hq; rcases hq with rfl | rfl | rfl | rfl | rfl | rfl <;> simp) (by omega)).1
  · exact (hb_low (psM N bits f) 30 (3) [(10, 122), (14, 108), (18, N), (22, 1), (26, 1 + bits * 65536)] _ rfl (by intro q hq; simp at hq; rcases hq with rfl | rfl | rfl | rfl <;> simp) (by omega)).1
  · have h : i = 0 ∨ i = 1 ∨ i = 2 ∨ i = 3 := by omega
    rcases h with rfl | rfl | rfl | rfl
    · exact (hb_low (psM N bits f) 54 (f 0) [(10, 122), (14, 108), (18, N), (22, 1), (26, 1 + bits * 65536), (30, 3)] _ rfl (by intro q hq; simp at hq; rcases hq with rfl | rfl | rfl <;> simp) (hf _)).1
    · exact (hb_low (psM N bits f) 58 (f 1) [(10, 122), (14, 108), (18, N), (22, 1), (26, 1 + bits * 65536), (30, 3), (54, f 0)] _ rfl (by intro q hq; simp at hq; rcases hq with rfl | rfl <;> simp) (hf _)).1
    · exact (hb_low (psM N bits f) 62 (f 2) [(10, 122), (14, 108), (18, N), (22, 1), (26, 1 + bits * 65536), (30, 3), (54, f 0), (58, f 1)] _ rfl (by intro q hq; simp at hq; subst hq; simp) (hf _)).1
    · exact (hb_low (psM N bits f) 66 (f 3) [(10, 122), (14, 108), (18, N), (22, 1), (26, 1 + bits * 65536), (30, 3), (54, f 0), (58, f 1), (62, f 2)] _ rfl (by intro q hq; simp at hq) (hf _)).1
/-- A number's bytes, from the lowest. -/
def byM (v : Nat) : Nat → List Nat
  | 0 => []
  | t + 1 => byM v t ++ [v / 2 ^ (8 * t) % 256]
theorem byM_len (v : Nat) : ∀ t, (byM v t).length = t
  | 0 => rfl
  | t + 1 => by rw [byM, List.length_append, byM_len v t]; rfl
def valM (k : Nat) (v : Nat → Nat) : Nat → List Nat
  | 0 => []
  | i + 1 => valM k v i ++ byM (v i) k
theorem valM_len (k : Nat) (v : Nat → Nat) : ∀ i, (valM k v i).length = k * i
  | 0 => rfl
  | i + 1 => by rw [valM, List.length_append, valM_len k v i, byM_len, Nat.mul_add, Nat.mul_one]
theorem valM_get (k : Nat) (v : Nat → Nat) : ∀ n i j, i < n → j < k → gl (valM k v n) (k * i + j) = gl (byM (v i) k) j
  | 0, i, j, h, _ => absurd h (by omega)
  | n + 1, i, j, h, hj => by
    have hl := valM_len k v n
    rw [valM]
    by_cases hi : i = n
    · subst hi
      have h1 := gl_2 (valM k v i) (byM (v i) k) j
      rw [hl] at h1
      exact h1
    · have h1 : k * i + k ≤ k * n := by
        have := Nat.mul_le_mul_left k (show i + 1 ≤ n by omega)
        rwa [Nat.mul_add, Nat.mul_one] at this
      rw [gl_1 (by omega)]
      exact valM_get k v n i j (by omega) hj
/-- The whole file. -/
def fileM (N bits : Nat) (f v : Nat → Nat) : List Nat := fL 122 (hF (psM N bits f)) ++ (valM (bits / 8) v N ++ [0, 0])
theorem fileM_len (N bits : Nat) (f v : Nat → Nat) : (fileM N bits f v).length = 124 + bits / 8 * N := by
  simp [fileM, fL_len, valM_len]
  omega
end Go.Proofs.YtdooefnckdklmaaDoor

namespace Go.Proofs.YtdooefnckdklmaaDoor
set_option maxRecDepth 100000
set_option linter.unusedVariables false
open Go.ChangeShapes Go.WideShapes Go.ChangeAt Go.RowKit

/-- A file of numbers under masks. -/
structure ManyD (d : Nat → Nat) (N bits : Nat) (f v : Nat → Nat) : Prop where
  b0 : d 0 = 66
  b1 : d 1 = 77
  off : lowD d 10 4 = 122
  size : lowD d 14 4 = 108
  wide : lowD d 18 4 = N
  high : lowD d 22 4 = 1
  planes : lowD d 26 2 = 1
  deep : lowD d 28 2 = bits
  kind : lowD d 30 4 = 3
  masks : ∀ i, i < 4 → lowD d (54 + 4 * i) 4 = f i
  vals : ∀ i, i < N → lowD d (122 + bits / 8 * i) (bits / 8) = v i % 2 ^ bits
section
variable {d f v : Nat → Nat} {N bits : Nat}
theorem ManyD.mask (h : ManyD d N bits f v) (i : Nat) (hi : i < 4) : bmMask d i = f i := by
  have hs : bmS d = 108 := h.size
  have hk : bmK d = 3 := h.kind
  have hm : bmMany d = 4 := by rw [bmMany, if_pos hs]
  rw [bmMask, hm, if_pos ⟨hk, hi⟩]
  exact h.masks i hi
theorem ManyD.read (h : ManyD d N bits f v) (hN : 1 ≤ N ∧ N ≤ 200) (hbits : bits = 16 ∨ bits = 32) (n : Nat) (hn : n = 124 + bits / 8 * N) :
    bmW d = (N : Nat) ∧ (bmH d).natAbs = 1 ∧ (masksB (bmMask d) bits = false → bmG d n = (noB, 4)) ∧
      (masksB (bmMask d) bits = true → ∃ c', bmG d n = (c', 0) ∧ ∀ t, t < N → ∀ i, i < 4 → c' (4 * t + i) = pt4 (bm4 (bmMask d) (v t % 2 ^ bits)) i) := by
  have hw : bmW d = (N : Nat) := by unfold bmW; rw [h.wide, sgnV, if_pos (by omega)]
  have hhe : bmH d = 1 := by unfold bmH; rw [h.high, sgnV, if_pos (by omega)]; rfl
  have ha : (bmH d).natAbs = 1 := by rw [hhe]; rfl
  have hk8 : bits / 8 = 2 ∨ bits / 8 = 4 := by omega
  have hnn : 124 ≤ n ∧ n ≤ 1000 := by rcases hk8 with e | e <;> rw [e] at hn <;> omega
  have hz : sizeE (N : Nat) (1 : Nat) = 0 := by
    unfold sizeE
    rw [if_neg (by omega), if_neg (by
      have : (16384 : Int) / ((1 : Nat) : Int) = 16384 := by rfl
      omega)]
  have hs : bmS d = 108 := h.size
  have hk : bmK d = 3 := h.kind
  have hb : bmBits d = bits := h.deep
  have hm : bmMany d = 4 := by rw [bmMany, if_pos hs]
  have hof : bmOff d = 122 := h.off
  have hfine : bmFine (bmBits d) (bmK d) (bmH d) = true := by rw [hb, hk]; unfold bmFine; exact decide_eq_true ⟨by omega, by omega, by omega, by omega, by omega⟩
  have hE1 : headE d n = 0 := headE_0 (by omega) ⟨h.b0, h.b1⟩ (by omega) (by omega) ⟨h.planes, by rw [hw]; omega, by omega, hfine⟩ (by rw [hw, ha]; exact not_not_intro hz)
  refine ⟨hw, ha, fun hmk => ?_, fun hmk => ?_⟩
  · have hE2 : swE d n = 4 := by rw [swE, if_neg (by omega), if_pos ⟨hk, by rw [hb]; exact hmk⟩]
    have hE : bmErr d n = 4 := by rw [bmErr_eq d n (by omega), hE1, hE2]; rfl
    rw [bmG, hE, if_pos (by decide)]
  have hE2 : swE d n = 0 := by rw [swE, if_neg (by omega), if_neg (by rw [hb, hmk]; simp), if_neg (by omega), if_neg (by omega)]
  have he1 : bmE1 d = 122 := by rw [bmE1, hs, if_neg (by omega)]
  have he2 : bmE2 d = 122 := by rw [bmE2, he1, if_neg (by omega)]
  have hE3 : offE d n = 0 := by rw [offE, if_neg (by omega), if_neg (by omega)]
  have hE : bmErr d n = 0 := by rw [bmErr_eq d n (by omega), hE1, hE2, hE3]; rfl
  have hcol : bmCols d = [] := cols_nil (by omega)
  have hdn : decide (bmH d < 0) = false := by rw [hhe]; rfl
  have hwd : bmWide N bits ≤ bits / 8 * N + 2 := by
    unfold bmWide
    rcases hbits with e | e <;> subst e <;> omega
  rw [bmG, hE, if_neg (by simp), if_neg (by omega), hw, ha, hb, hof, hdn, hcol, Int.toNat_natCast, bmRows_eq, if_neg (by omega)]
  have hpos : ∀ t, t < N → posR N 1 false t = t := fun t ht => by
    unfold posR bmY
    rw [Nat.div_eq_of_lt ht, Nat.mod_eq_of_lt ht]
    simp
  have hpx : ∀ t, t < N → pxR d N bits 122 (bmMask d) [] t = some (bm4 (bmMask d) (v t % 2 ^ bits)) := fun t ht => by
    have hv := h.vals t ht
    unfold pxR bmPx
    rw [Nat.div_eq_of_lt ht, Nat.mod_eq_of_lt ht, Nat.zero_mul, Nat.add_zero]
    rcases hbits with e | e <;> subst e
    · rw [if_pos rfl]
      rw [show 16 / 8 = 2 from rfl] at hv
      rw [hv]
    · rw [if_neg (by decide), if_neg (by decide), if_pos rfl]
      rw [show 32 / 8 = 4 from rfl] at hv
      rw [hv]
  obtain ⟨c1, h1, h2, h3⟩ := drawB_all (px := pxR d N bits 122 (bmMask d) []) (pos := posR N 1 false) (P := fun t => bm4 (bmMask d) (v t % 2 ^ bits)) (N * 1) 0 noB (fun t _ ht => hpx t (by omega)) (fun s t _ a _ b e => by
    rw [hpos s (by omega), hpos t (by omega)] at e
    exact e)
  refine ⟨c1, by rw [rowR, h1], fun t ht i hi => ?_⟩
  have h4 := h2 t (Nat.zero_le _) (by omega) i hi
  rw [hpos t ht] at h4
  exact h4
end
end Go.Proofs.YtdooefnckdklmaaDoor

namespace Go.Proofs.YtdooefnckdklmaaDoor
set_option maxRecDepth 100000
set_option linter.unusedVariables false
open Go.ChangeShapes Go.WideShapes Go.ChangeAt Go.RowKit

theorem fileM_head {N bits : Nat} {f v : Nat → Nat} {j : Nat} (hj : j < 122) : gl (fileM N bits f v) j = hF (psM N bits f) j := by
  unfold fileM
  rw [gl_1 (by rw [fL_len]; exact hj)]
  simp [gl, fL, hj]
theorem fileM_val {N bits : Nat} {f v : Nat → Nat} {i j : Nat} (hi : i < N) (hj : j < bits / 8) : gl (fileM N bits f v) (122 + (bits / 8 * i + j)) = gl (byM (v i) (bits / 8)) j := by
  have h1 := gl_2 (fL 122 (hF (psM N bits f))) (valM (bits / 8) v N ++ [0, 0]) (bits / 8 * i + j)
  rw [fL_len] at h1
  have h2 : bits / 8 * i + bits / 8 ≤ bits / 8 * N := by
    have := Nat.mul_le_mul_left (bits / 8) (show i + 1 ≤ N by omega)
    rwa [Nat.mul_add, Nat.mul_one] at this
  unfold fileM
  rw [h1, gl_1 (by rw [valM_len]; omega)]
  exact valM_get _ v N i j hi hj
theorem byM_lt (v : Nat) : ∀ t, ∀ x ∈ byM v t, x < 256
  | 0, x, h => by cases h
  | t + 1, x, h => by
    rcases List.mem_append.1 h with h | h
    · exact byM_lt v t x h
    · rw [List.mem_singleton.1 h]
      exact Nat.mod_lt _ (by omega)
theorem valM_lt (k : Nat) (v : Nat → Nat) : ∀ n, ∀ x ∈ valM k v n, x < 256
  | 0, x, h => by cases h
  | n + 1, x, h => by
    rcases List.mem_append.1 h with h | h
    · exact valM_lt k v n x h
    · exact byM_lt _ _ x h
theorem fileM_lt {N bits : Nat} {f v : Nat → Nat} : ∀ x ∈ fileM N bits f v, x < 256 := by
  intro x hx
  unfold fileM at hx
  rcases List.mem_append.1 hx with h | h
  · obtain ⟨j, _, rfl⟩ := List.mem_map.1 h
    exact hF_lt _ _
  · rcases List.mem_append.1 h with h | h
    · exact valM_lt _ _ _ x h
    · simp at h
      omega
theorem many_file (N bits : Nat) (f v : Nat → Nat) (hN : N ≤ 200) (hbits : bits = 16 ∨ bits = 32) (hf : ∀ i, f i < 4294967296) : ManyD (gl (fileM N bits f v)) N bits f v := by
  obtain ⟨a0, a1, a2, a3, a4, a5, a6, a7, a8, a9⟩ := hF_M N bits f hN (by omega) hf
  have hc : ∀ p k, p + k ≤ 122 → lowD (gl (fileM N bits f v)) p k = lowD (hF (psM N bits f)) p k := fun p k h => lowD_congr k p (fun j _ h2 => fileM_head (by omega))
  refine ⟨?_, ?_, ?_, ?_, ?_, ?_, ?_, ?_, ?_, fun i hi => ?_, fun i hi => ?_⟩
  · rw [fileM_head (by omega)]; exact a0
  · rw [fileM_head (by omega)]; exact a1
  · rw [hc _ _ (by omega)]; exact a2
  · rw [hc _ _ (by omega)]; exact a3
  · rw [hc _ _ (by omega)]; exact a4
  · rw [hc _ _ (by omega)]; exact a5
  · rw [hc _ _ (by omega)]; exact a6
  · rw [hc _ _ (by omega)]; exact a7
  · rw [hc _ _ (by omega)]; exact a8
  · rw [hc _ _ (by omega)]; exact a9 i hi
  · have hg : ∀ j, j < bits / 8 → gl (fileM N bits f v) (122 + bits / 8 * i + j) = gl (byM (v i) (bits / 8)) j := fun j hj => by
      rw [Nat.add_assoc]
      exact fileM_val hi hj
    generalize 122 + bits / 8 * i = p at hg ⊢
    rcases hbits with e | e <;> subst e
    · simp only [Nat.reduceDiv] at hg ⊢
      have g0 := hg 0 (by omega)
      have g1 := hg 1 (by omega)
      simp only [lowD, Nat.add_zero] at g0 g1 ⊢
      rw [g0, g1]
      simp [gl, byM]
      omega
    · simp only [Nat.reduceDiv] at hg ⊢
      have g0 := hg 0 (by omega)
      have g1 := hg 1 (by omega)
      have g2 := hg 2 (by omega)
      have g3 := hg 3 (by omega)
      simp only [lowD, Nat.add_zero, Nat.add_assoc, Nat.reduceAdd] at g0 g1 g2 g3 ⊢
      rw [g0, g1, g2, g3]
      simp [gl, byM]
      omega
end Go.Proofs.YtdooefnckdklmaaDoor

namespace Go.Proofs.YtdooefnckdklmaaDoor
set_option maxRecDepth 100000
set_option linter.unusedVariables false
open Go.ChangeShapes Go.WideShapes Go.ChangeAt Go.RowKit

theorem U32s.chg {S : List Nat} {w w' : World} {A : Option Addr} {n : Nat} {c : Nat → Nat} (h : U32s w A n c) (hb : Chg S w w') (ho : 0 < n → Off A S) : U32s w' A n c := fun hn => by
  obtain ⟨bk, off, rfl, hlt, hc⟩ := h hn
  refine ⟨bk, off, rfl, Nat.lt_of_lt_of_le hlt hb.size, fun j hj => ?_⟩
  have h1 := hc j hj
  have h2 := hb.block bk hlt (ho hn _ rfl)
  simp only [World.cell?] at h1 ⊢
  rw [h2]
  exact h1
/-- What came in stays: the masks' box, the numbers. -/
structure StM (xb : Nat) (bx : Array Value) (A : Option Addr) (m : Nat) (d : Nat → Nat) (w wr : World) : Prop where
  box : wr.heap[xb]? = some (.cells bx 57 (0, 0))
  arg : U32s wr A m d
  bel : Below w.heap.size w wr
section
variable {xb m t base : Nat} {bx : Array Value} {A : Option Addr} {d : Nat → Nat} {w wr w' : World} {l : List Nat} {v : Value}
theorem StM.chg {S : List Nat} (h : StM xb bx A m d w wr) (hc : Chg S wr w') (hS : ∀ k ∈ S, xb < k) (hx : w.heap.size ≤ xb) (hA : ∀ a, A = some a → 0 < m → a.block < w.heap.size) : StM xb bx A m d w w' :=
  ⟨hp_chg h.box hc (fun hm => by have := hS _ hm; omega), h.arg.chg hc (fun h0 a ha hm => by have h1 := hA a ha h0; have h2 := hS _ hm; omega), h.bel.trans (hc.below h.bel.size (fun k hk => by have := hS k hk; omega))⟩
theorem StM.below (h : StM xb bx A m d w wr) (hB : Below wr.heap.size wr w') : StM xb bx A m d w w' :=
  ⟨hp_below h.box hB (lt_heap h.box), h.arg.below hB, h.bel.trans (hB.mono h.bel.size)⟩
/-- While the file is written. -/
structure RwM (base xb : Nat) (bx : Array Value) (A : Option Addr) (m : Nat) (d : Nat → Nat) (w : World) (t : Nat) (l : List Nat) (v : Value) (wr : World) : Prop where
  own : wr.ownsRow base 5 1 v t (cellsB l)
  st : StM xb bx A m d w wr
theorem RwM.app (h : RwM base xb bx A m d w t l v wr) (hx : w.heap.size ≤ xb ∧ xb < base) (hbl : base ≤ wr.heap.size) (hA : ∀ a, A = some a → 0 < m → a.block < w.heap.size) (ml : List Nat) (k : Nat) (hk : ml.length = k) (ht : t < 1000000) (hk2 : k < 1000) :
    ∃ v' w', (Builtin.append_ #[22, 22] 22 #[v, .slice (some ⟨wr.heap.size, 0, none⟩) k k]).run Tryd.prog (wr.alloc (.cells (cellsB ml).toArray 5)) = .ok v' w' ∧ RwM base xb bx A m d w (t + k) (l ++ ml) v' w' ∧ base ≤ w'.heap.size := by
  have hal : Below wr.heap.size wr (wr.alloc (.cells (cellsB ml).toArray 5)) := (Below.refl _ wr).alloc (Nat.le_refl _) _
  have ho := h.own.alloc (.cells (cellsB ml).toArray 5)
  obtain ⟨v', w', r, o, g⟩ := app_lit _ base v t l ml wr.heap.size k hk ho (hp_new0 _ _) ht hk2 (by rw [World.size_alloc]; omega)
  have hc : Chg v.ownBlock.toList wr w' := (Chg.of_below hal).trans (Chg.grown g (fun r e => by rw [e]; simp))
  have hS : ∀ k ∈ v.ownBlock.toList, base ≤ k := fun r hr => (h.own.lt r (by simpa using hr)).1
  exact ⟨v', w', r, ⟨o, h.st.chg hc (fun k hk => by have := hS k hk; omega) hx.1 hA⟩, Nat.le_trans hbl (hc.below hbl hS).size⟩
end
/-- The numbers that are written, as cells. -/
def lowM (N bits : Nat) (f : Nat → Nat) : Array Value := #[.int .i64 10, .int .i64 122, .int .i64 14, .int .i64 108, .int .i64 18, .int .i64 (N : Nat), .int .i64 22, .int .i64 1, .int .i64 26, .int .i64 ((1 + bits * 65536 : Nat) : Int), .int .i64 30, .int .i64 3, .int .i64 54, .int .i64 (f 0 : Nat), .int .i64 58, .int .i64 (f 1 : Nat), .int .i64 62, .int .i64 (f 2 : Nat), .int .i64 66, .int .i64 (f 3 : Nat)]
theorem lowM_at {N bits : Nat} {f : Nat → Nat} {j : Nat} {p : Nat × Nat} (h : (psM N bits f)[j]? = some p) (hb : bits ≤ 32) (hN : N ≤ 200) (hf : ∀ i, f i < 4294967296) :
    (lowM N bits f)[2 * j]? = some (.int .i64 (p.1 : Nat)) ∧ p.1 ≤ 66 ∧ (lowM N bits f)[2 * j + 1]? = some (.int .i64 (p.2 : Nat)) ∧ p.2 < 4294967296 := by
  match j, h with
  | 0, h => cases h; exact ⟨rfl, by simp, rfl, by simp⟩
  | 1, h => cases h; exact ⟨rfl, by simp, rfl, by simp⟩
  | 2, h => cases h; exact ⟨rfl, by simp, rfl, by simp only; omega⟩
  | 3, h => cases h; exact ⟨rfl, by simp, rfl, by simp⟩
  | 4, h => cases h; exact ⟨rfl, by simp, rfl, by simp only; omega⟩
  | 5, h => cases h; exact ⟨rfl, by simp, rfl, by simp⟩
  | 6, h => cases h; exact ⟨rfl, by simp, rfl, hf 0⟩
  | 7, h => cases h; exact ⟨rfl, by simp, rfl, hf 1⟩
  | 8, h => cases h; exact ⟨rfl, by simp, rfl, hf 2⟩
  | 9, h => cases h; exact ⟨rfl, by simp, rfl, hf 3⟩
  | j + 10, h => simp [psM] at h
/-- While the head is written. -/
structure HdM (nb cb lb xb : Nat) (low bx : Array Value) (A : Option Addr) (m : Nat) (d : Nat → Nat) (w : World) (f : Nat → Nat) (wr : World) : Prop where
  own : wr.ownsRow nb 5 1 (.slice (some ⟨nb, 0, none⟩) 122 cb) 122 (cellsB (fL 122 f))
  low : wr.heap[lb]? = some (.cells low 3 (0, 0))
  st : StM xb bx A m d w wr
theorem HdM.put {nb cb lb xb : Nat} {low bx : Array Value} {A : Option Addr} {m : Nat} {d : Nat → Nat} {w : World} {f : Nat → Nat} {wr : World} (h : HdM nb cb lb xb low bx A m d w f wr) (hnl : nb ≠ lb) (hx : w.heap.size ≤ xb ∧ xb < nb) (hA : ∀ a, A = some a → 0 < m → a.block < w.heap.size) {at_ v k : Nat} {f0 : Nat → Nat} (hf : f = putK f0 at_ v k) (hk : at_ + k < 122) : HdM nb cb lb xb low bx A m d w (putK f0 at_ v (k + 1)) ((wr.setCell ⟨nb, at_ + k, none⟩ (.int .u8 ((v / 2 ^ (8 * k) % 256 : Nat) : Int))).drew) := by
  have h1 := (h.own.stored (at_ + k) (.int .u8 ((v / 2 ^ (8 * k) % 256 : Nat) : Int))).1
  rw [← cellsB_set, hf, putK_set hk] at h1
  have hc : Chg [nb] wr ((wr.setCell ⟨nb, at_ + k, none⟩ (.int .u8 ((v / 2 ^ (8 * k) % 256 : Nat) : Int))).drew) := ((Chg.refl [nb] wr).set (.inl (by simp)) _ _).drew
  exact ⟨h1.drew, hp_chg h.low hc (by simp; omega), h.st.chg hc (fun k hk => by simp at hk; omega) hx.1 hA⟩
end Go.Proofs.YtdooefnckdklmaaDoor
