/- engraverlaw18's files: bytes as functions; append of noughts to two bytes. engraverlaw18.Plain: the walk. The plainest file is read as it is: plain law. The plainest file: what decoding it draws. A law over the laid table of math/bits: from its walk to its row, its row to its card. A picture that came in: its sides, its samples. BmpwriteBack: what decoding a written file draws. -/
import Derived.Test.YthgafdbdmemkhaaDoorM20
import Derived.Deep.RegionLaw
import Derived.Lib.SlBytesConst
import Derived.Lib.AppendZerosOnto
import Derived.Test.YthgafdbdmemkhaaDoorRows
import Derived.LaidMore
import Derived.Stop.Joined
import Derived.Lib.SmallJoins
namespace Go.Proofs.YthgafdbdmemkhaaDoor
set_option maxRecDepth 100000
set_option linter.unusedVariables false
open Go.ChangeShapes Go.WideShapes Go.ChangeAt Go.RowKit

/-- n bytes, f j the j-th. -/
def fL (n : Nat) (f : Nat → Nat) : List Nat := (List.range n).map f
theorem fL_len (n : Nat) (f : Nat → Nat) : (fL n f).length = n := by simp [fL]
theorem fL_succ (n : Nat) (f : Nat → Nat) : fL (n + 1) f = fL n f ++ [f n] := by simp [fL, List.range_succ]
theorem fL_congr {n : Nat} {f g : Nat → Nat} (h : ∀ j, j < n → f j = g j) : fL n f = fL n g := List.map_congr_left fun j hj => h j (List.mem_range.1 hj)
theorem fL_set {n i v : Nat} {f g : Nat → Nat} (hi : i < n) (hg : g i = v) (h : ∀ j, j ≠ i → g j = f j) : (fL n f).set i v = fL n g := by
  refine List.ext_getElem? (fun j => ?_)
  rw [List.getElem?_set]
  by_cases hj : i = j
  · subst hj
    rw [if_pos rfl, if_pos (by rw [fL_len]; exact hi)]
    simp [fL, hi, hg]
  · rw [if_neg hj]
    by_cases hl : j < n
    · simp [fL, hl, h j (Ne.symm hj)]
    · rw [List.getElem?_eq_none (by rw [fL_len]; omega), List.getElem?_eq_none (by rw [fL_len]; omega)]
theorem cellsB_set (l : List Nat) (i v : Nat) : cellsB (l.set i v) = (cellsB l).set i (.int .u8 ((v : Nat) : Int)) := by
  unfold cellsB
  rw [List.map_set]
def F0 : Nat → Nat := fun x => if x = 0 then 66 else if x = 1 then 77 else 0
/-- k bytes of v stand at at_. -/
def putK (f : Nat → Nat) (at_ v k : Nat) : Nat → Nat := fun x => if at_ ≤ x ∧ x < at_ + k then v / 2 ^ (8 * (x - at_)) % 256 else f x
theorem putK_0 (f : Nat → Nat) (at_ v : Nat) : putK f at_ v 0 = f := by
  funext x
  rw [putK, if_neg (by omega)]
theorem putK_set {n at_ v k : Nat} {f : Nat → Nat} (h : at_ + k < n) : (fL n (putK f at_ v k)).set (at_ + k) (v / 2 ^ (8 * k) % 256) = fL n (putK f at_ v (k + 1)) := by
  refine fL_set h ?_ (fun j hj => ?_)
  · rw [putK, if_pos (by omega), Nat.add_sub_cancel_left]
  · unfold putK
    by_cases hc : at_ ≤ j ∧ j < at_ + k
    · rw [if_pos hc, if_pos (by omega)]
    · rw [if_neg hc, if_neg (by omega)]
/-- What a list of places and numbers comes to. -/
def hF (ps : List (Nat × Nat)) : Nat → Nat := ps.foldl (fun f p => putK f p.1 p.2 4) F0
theorem hF_take {ps : List (Nat × Nat)} {j : Nat} {p : Nat × Nat} (h : ps[j]? = some p) : hF (ps.take (j + 1)) = putK (hF (ps.take j)) p.1 p.2 4 := by
  unfold hF
  rw [List.take_add_one, h, List.foldl_append]
  rfl
theorem run_app0_arg {P : Program} {w : World} (base : Nat) (t tn ty e : TypeId) (i : TypeInfo) (z : Value) (bytes : Nat) (kn : IntKind) (ht : P.underlying t = some (.slice e)) (htn : P.underlying tn = some (.int kn)) (hi : P.info? e = some i) (hz : i.zero = some z)
    (hsize : i.size = 1) (hby : i.bytes = bytes) (hzs : z.cells = #[z]) (g n cap : Nat) (xs : List Value) (hl : xs.length = n * 1) (holds : ∀ j u, xs[j]? = some u → w.cell? ((⟨g, 0, none⟩ : Addr).add j) = some u) (m : Nat) (hnc : n ≤ cap) (hroom : ¬n + m ≤ cap)
    (h63 : n + m ≤ maxLen) (hbytes : (n + m) * bytes ≤ 140737488355328) (hm : m < 4294967296) (hb1 : 1 ≤ bytes) (hbase : base ≤ w.heap.size) :
    ∃ cap' w', (Builtin.append_ #[t, tn] ty #[.slice (some ⟨g, 0, none⟩) n cap, .int .i64 m]).run P w = .ok (.slice (some ⟨w.heap.size, 0, none⟩) (n + m) cap') w' ∧ w'.ownsRow base e 1 (.slice (some ⟨w.heap.size, 0, none⟩) (n + m) cap') (n + m) (xs ++ List.replicate m z) ∧ w.grownBy w' none := by
  have hsmall : n + m ≤ 9223372036854775807 := by simp only [maxLen] at h63; omega
  have hmb : m * bytes ≤ 140737488355328 := Nat.le_trans (Nat.mul_le_mul_right _ (by omega)) hbytes
  have hzl : (Builtin.zeroCells z.cells m) = (List.replicate m z).toArray := by
    rw [hzs]
    have : (Builtin.zeroCells #[z] m).toList = List.replicate m z := by
      refine List.ext_getElem (by simp [Builtin.zeroCells]) (fun i h1 h2 => ?_)
      simp [Builtin.zeroCells, Nat.mod_one]
    rw [← this, Array.toArray_toList]
  have hlen : (xs ++ List.replicate m z).length = (n + m) * 1 := by rw [List.length_append, hl, List.length_replicate]; omega
  have hold := run_firstCells_some (P := P) w.drew i.size n ⟨g, 0, none⟩ n cap xs (by rw [hsize]; exact hl) holds
  have hr := Lib.run_append_grow_zeros (P := P) w t tn ty e i z .i64 kn ht htn hi hz (some ⟨g, 0, none⟩) n cap xs hold m (by omega) (by omega) (by omega) (by omega) (by rw [hby]; omega) (by rw [hby]; exact growslice_fits (by omega) hbytes)
  have hge := grownCap_ge w (n + m) cap e
  have hcm2 : grownCap w (n + m) cap e ≤ maxLen := grownCap_le_maxLen w (n + m) cap e h63
  refine ⟨_, _, hr, ⟨hlen, .inr ⟨w.heap.size, _, _, rfl, hbase, heap_alloc_new w.drew _, hge, hcm2, ?_, ?_⟩⟩, ⟨rfl, rfl, rfl, by simp, fun k hk _ => heap_alloc_old w.drew _ hk⟩⟩
  · simp only [Array.size_append, List.size_toArray, size_zeroCells, hzs, hl]
    simp
    omega
  · simp only [Array.toList_append, hzl, List.append_assoc]
    rw [← List.append_assoc, ← hlen]
    exact List.take_left
theorem wpList_app0 {P : Program} {w : World} {ops : Array Oper} {rest : List Oper} {o : Oper} {a : Act} {Q : Exit → Act → World → Prop} (hgd : o.guard = none) (s x : Operand) (t tn : TypeId)
    (ho : o.op = .call { callee := .builtin .append, args := #[s, x], argTypes := #[t, tn] }) (v sv v' : Value) (w' : World) (hs : a.eval s = v) (hx : a.eval x = sv)
    (hrun : (Builtin.append_ #[t, tn] o.type #[v, sv]).run P w = .ok v' w') (h : wpList P ops Q rest (a.put o.dst v') w') : wpList P ops Q (o :: rest) a w := by
  refine wpList_plain hgd fun K hK => ?_
  unfold Oper.wp
  simp [execOp, ho, resolve, invoke, builtin, hs, hx, hrun, Result.andThen]
  exact hK _ _ h
/-- "BM" and noughts. -/
theorem run_bm (w : World) (nb m : Nat) (fr : Nat × Nat) (h : w.heap[nb]? = some (.cells #[.int .u8 66, .int .u8 77] 5 fr)) (hm1 : 0 < m) (hm : m ≤ 1000) :
    ∃ cap' w', (Builtin.append_ #[26, 3] 26 #[.slice (some ⟨nb, 0, none⟩) 2 2, .int .i64 m]).run Tryd.prog w = .ok (.slice (some ⟨w.heap.size, 0, none⟩) (2 + m) cap') w' ∧ w'.ownsRow w.heap.size 5 1 (.slice (some ⟨w.heap.size, 0, none⟩) (2 + m) cap') (2 + m) (cellsB (fL (2 + m) F0)) ∧ w.grownBy w' none := by
  obtain ⟨i0, hi0, hz0, hz1, hz2⟩ := info_parts info8
  have e : cellsB (fL (2 + m) F0) = [.int .u8 66, .int .u8 77] ++ List.replicate m (.int .u8 0) := by
    have e2 : fL (2 + m) F0 = [66, 77] ++ List.replicate m 0 := by
      refine List.ext_getElem? (fun j => ?_)
      by_cases hj : j < 2 + m
      · rw [fL, List.getElem?_map, List.getElem?_range hj]
        match j with
        | 0 => rfl
        | 1 => rfl
        | j + 2 =>
          simp [F0, List.getElem?_replicate]
          omega
      · rw [List.getElem?_eq_none (by rw [fL_len]; omega), List.getElem?_eq_none (by simp; omega)]
    rw [e2]
    simp [cellsB]
  rw [e]
  exact run_app0_arg w.heap.size 26 3 26 5 i0 (.int .u8 0) 1 .i64 Tryd.underlying26 Tryd.underlying3 hi0 hz0 hz1 hz2 rfl nb 2 2 [.int .u8 66, .int .u8 77] rfl (fun j u hj => by
    rw [Addr.add_lit, Nat.zero_add]
    rw [cell_of_row _ nb j _ 5 fr h, ← Array.getElem?_toList]
    exact hj) m (by omega) (by omega) (by unfold maxLen; omega) (by omega) (by omega) (by omega) (Nat.le_refl _)
theorem div_bd18 (n q : Nat) (hn : n < 4398046511104) : 0 ≤ (n : Int) / 2 ^ q ∧ (n : Int) / 2 ^ q ≤ 4398046511104 := by
  rw [show (n : Int) / 2 ^ q = ((n / 2 ^ q : Nat) : Int) by simp]
  have := Nat.div_le_self n (2 ^ q)
  generalize n / 2 ^ q = y at *
  omega
theorem cellsB_snoc1 (l : List Nat) (x : Nat) : cellsB (l ++ [x]) = cellsB l ++ [.int .u8 ((x : Nat) : Int)] := by simp [cellsB]
/-- append of one byte to a row of one's own. -/
theorem app_one (V : World) (base : Nat) (v : Value) (n : Nat) (l : List Nat) (nb x : Nat) (hO : V.ownsRow base 5 1 v n (cellsB l)) (hN : V.heap[nb]? = some (.cells #[.int .u8 ((x : Nat) : Int)] 5 (0, 0))) (hi : n < 1000000) (hb : base ≤ V.heap.size) :
    ∃ v' w', (Builtin.append_ #[26, 26] 26 #[v, .slice (some ⟨nb, 0, none⟩) 1 1]).run Tryd.prog V = .ok v' w' ∧ w'.ownsRow base 5 1 v' (n + 1) (cellsB (l ++ [x])) ∧ V.grownBy w' v.ownBlock := by
  obtain ⟨i0, hi0, hz0, hz1, hz2⟩ := info_parts info8
  rw [cellsB_snoc1]
  obtain ⟨v', w', h1, h2, h3, _⟩ := run_app (P := Tryd.prog) (w := V) base 26 26 5 i0 (.int .u8 0) 1 1 Tryd.underlying26 hi0 hz0 hz1 hz2 rfl (by omega) v n (cellsB l) hO
    (some ⟨nb, 0, none⟩) 1 1 [.int .u8 ((x : Nat) : Int)] (by simp) rfl (fun _ => ⟨nb, 0, rfl, fun j u hj => by
      match j, hj with
      | 0, hj => simp at hj; subst hj; exact hp_cell (j := 0) hN (by simp)
      | j + 1, hj => simp at hj⟩) (by intro u hu; simp at hu; subst hu; rfl) (by unfold maxLen; omega) (by omega) hb
  exact ⟨v', w', h1, h2, h3⟩
end Go.Proofs.YthgafdbdmemkhaaDoor

namespace Go.Proofs.YthgafdbdmemkhaaDoor
set_option maxRecDepth 100000
set_option linter.unusedVariables false
open Go.ChangeShapes Go.WideShapes Go.ChangeAt Go.RowKit

def psP (W H : Nat) : List (Nat × Nat) := [(10, 122), (14, 108), (18, W), (22, H), (26, 2097153), (30, 3), (54, 255), (58, 65280), (62, 16711680), (66, 4278190080)]
/-- The pixels' bytes, from the bottom row up. -/
def plB (c : Nat → Nat) (W H t : Nat) : Nat := c (4 * W * (H - 1 - t / (4 * W)) + t % (4 * W)) / 257
def plL (c : Nat → Nat) (W H : Nat) : List Nat := fL 122 (hF (psP W H)) ++ fL (4 * W * H) (plB c W H)
theorem plL_len (c : Nat → Nat) (W H : Nat) : (plL c W H).length = 122 + 4 * W * H := by simp [plL, fL_len]
/-- The numbers that are written, as cells. -/
def lowC (W H : Nat) : Array Value := #[.int .i64 10, .int .i64 122, .int .i64 14, .int .i64 108, .int .i64 18, .int .i64 (W : Nat), .int .i64 22, .int .i64 (H : Nat), .int .i64 26, .int .i64 2097153, .int .i64 30, .int .i64 3, .int .i64 54, .int .i64 255, .int .i64 58, .int .i64 65280, .int .i64 62, .int .i64 16711680, .int .i64 66, .int .i64 4278190080]
theorem lowC_at {W H j : Nat} {p : Nat × Nat} (h : (psP W H)[j]? = some p) : (lowC W H)[2 * j]? = some (.int .i64 (p.1 : Nat)) ∧ (lowC W H)[2 * j + 1]? = some (.int .i64 (p.2 : Nat)) := by
  match j, h with
  | 0, h => cases h; exact ⟨rfl, rfl⟩
  | 1, h => cases h; exact ⟨rfl, rfl⟩
  | 2, h => cases h; exact ⟨rfl, rfl⟩
  | 3, h => cases h; exact ⟨rfl, rfl⟩
  | 4, h => cases h; exact ⟨rfl, rfl⟩
  | 5, h => cases h; exact ⟨rfl, rfl⟩
  | 6, h => cases h; exact ⟨rfl, rfl⟩
  | 7, h => cases h; exact ⟨rfl, rfl⟩
  | 8, h => cases h; exact ⟨rfl, rfl⟩
  | 9, h => cases h; exact ⟨rfl, rfl⟩
  | j + 10, h => simp [psP] at h
theorem psP_bd {W H j : Nat} {p : Nat × Nat} (hW : W ≤ 256) (hH : H ≤ 256) (h : (psP W H)[j]? = some p) : p.1 ≤ 66 ∧ p.2 < 4294967296 := by
  have hm := List.mem_of_getElem? h
  simp only [psP, List.mem_cons, List.not_mem_nil, or_false] at hm
  rcases hm with rfl | rfl | rfl | rfl | rfl | rfl | rfl | rfl | rfl | rfl <;> simp <;> omega
/-- While the head is written. -/
structure PlS (W H N nb cb lb : Nat) (A : Option Addr) (cap : Nat) (c : Nat → Nat) (w : World) (f : Nat → Nat) (wr : World) : Prop where
  own : wr.ownsRow nb 5 1 (.slice (some ⟨nb, 0, none⟩) 122 cb) 122 (cellsB (fL 122 f))
  low : wr.heap[lb]? = some (.cells (lowC W H) 3 (0, 0))
  ras : wr.heap[w.heap.size]? = some (.cells #[.int .i64 (W : Nat), .int .i64 (H : Nat), .slice A (4 * N) cap] 24 (0, 0))
  pix : Pix wr A (4 * N) c
  bel : Below w.heap.size w wr
theorem PlS.put {W H N nb cb lb : Nat} {A : Option Addr} {cap : Nat} {c : Nat → Nat} {w : World} {f : Nat → Nat} {wr : World} (h : PlS W H N nb cb lb A cap c w f wr) (hnl : nb ≠ lb) (hnw : w.heap.size < nb) (hA : ∀ a, A = some a → a.block < w.heap.size) {at_ v k : Nat} {f0 : Nat → Nat} (hf : f = putK f0 at_ v k) (hk : at_ + k < 122) : PlS W H N nb cb lb A cap c w (putK f0 at_ v (k + 1)) ((wr.setCell ⟨nb, at_ + k, none⟩ (.int .u8 ((v / 2 ^ (8 * k) % 256 : Nat) : Int))).drew) := by
  have h1 := (h.own.stored (at_ + k) (.int .u8 ((v / 2 ^ (8 * k) % 256 : Nat) : Int))).1
  rw [← cellsB_set, hf, putK_set hk] at h1
  have hc : Chg [nb] wr ((wr.setCell ⟨nb, at_ + k, none⟩ (.int .u8 ((v / 2 ^ (8 * k) % 256 : Nat) : Int))).drew) := ((Chg.refl [nb] wr).set (.inl (by simp)) _ _).drew
  refine ⟨h1.drew, hp_chg h.low hc (by simp; omega), hp_chg h.ras hc (by simp; omega), ?_, (h.bel.setCell (p := ⟨nb, at_ + k, none⟩) (by simp; omega) _).drew⟩
  intro hn
  obtain ⟨bk, of, he, hlt, hcl⟩ := h.pix hn
  have hb := hA _ he
  refine ⟨bk, of, he, Nat.lt_of_lt_of_le hlt hc.size, fun j hj => ?_⟩
  exact cell_chg hc (by simp at hb ⊢; omega) (hcl j hj)
/-- While the pixels are written. -/
structure PxP (W H N : Nat) (A : Option Addr) (cap : Nat) (c : Nat → Nat) (w : World) (t : Nat) (v : Value) (wr : World) : Prop where
  own : wr.ownsRow (w.heap.size + 1) 5 1 v (122 + t) (cellsB (fL 122 (hF (psP W H)) ++ fL t (plB c W H)))
  ras : wr.heap[w.heap.size]? = some (.cells #[.int .i64 (W : Nat), .int .i64 (H : Nat), .slice A (4 * N) cap] 24 (0, 0))
  pix : Pix wr A (4 * N) c
  bel : Below w.heap.size w wr
end Go.Proofs.YthgafdbdmemkhaaDoor

namespace Go.Proofs.YthgafdbdmemkhaaDoor
set_option maxRecDepth 100000
set_option linter.unusedVariables false
open Go.ChangeShapes Go.WideShapes Go.ChangeAt Go.RowKit

def gl (l : List Nat) (j : Nat) : Nat := (l[j]?).getD 0
/-- The plainest masks. -/
def mkL (i : Nat) : Nat := if i = 0 then 255 else if i = 1 then 65280 else if i = 2 then 16711680 else if i = 3 then 4278190080 else 0
theorem maskV8 (x : Nat) (hx : x < 256) : maskV (x : Int) ((8 : Nat) : Int) = (x : Int) * 257 := by
  have hb : maskB (x : Int) ((8 : Nat) : Int) = true := by simp [maskB]; omega
  rw [maskV, hb]
  simp
  omega
theorem bmL (v : Nat) : bmF mkL v 0 = ((v % 256 : Nat) : Int) * 257 ∧ bmF mkL v 1 = ((v / 256 % 256 : Nat) : Int) * 257 ∧ bmF mkL v 2 = ((v / 65536 % 256 : Nat) : Int) * 257 ∧ bmF mkL v 3 = ((v / 16777216 % 256 : Nat) : Int) * 257 := by
  have r0 : runM (mkL 0) = (0, 8, true) := by decide +kernel
  have r1 : runM (mkL 1) = (8, 8, true) := by decide +kernel
  have r2 : runM (mkL 2) = (16, 8, true) := by decide +kernel
  have r3 : runM (mkL 3) = (24, 8, true) := by decide +kernel
  refine ⟨?_, ?_, ?_, ?_⟩
  · rw [bmF, r0]; simpa using maskV8 _ (Nat.mod_lt v (show 0 < 256 by omega))
  · rw [bmF, r1]; simpa using maskV8 _ (Nat.mod_lt (v / 256) (show 0 < 256 by omega))
  · rw [bmF, r2]; simpa using maskV8 _ (Nat.mod_lt (v / 65536) (show 0 < 256 by omega))
  · rw [bmF, r3]; simpa using maskV8 _ (Nat.mod_lt (v / 16777216) (show 0 < 256 by omega))
theorem masks_L : masksB mkL 32 = true := by decide +kernel
theorem hb_at (ps : List (Nat × Nat)) (x at_ v : Nat) (l r : List (Nat × Nat)) (hp : ps = l ++ (at_, v) :: r) (hx : at_ ≤ x ∧ x < at_ + 4) (hr : ∀ q ∈ r, at_ + 4 ≤ q.1) : hF ps x = v / 2 ^ (8 * (x - at_)) % 256 := by
  unfold hF
  rw [hp, List.foldl_append, List.foldl_cons]
  generalize List.foldl (fun f p => putK f p.1 p.2 4) F0 l = f
  have key : ∀ (r : List (Nat × Nat)) (g : Nat → Nat), (∀ q ∈ r, at_ + 4 ≤ q.1) → (r.foldl (fun f p => putK f p.1 p.2 4) g) x = g x := by
    intro r
    induction r with
    | nil => intro g _; rfl
    | cons q r ih =>
      intro g h
      rw [List.foldl_cons, ih _ (fun q' hq' => h q' (List.mem_cons_of_mem _ hq'))]
      have := h q (List.mem_cons_self ..)
      rw [putK, if_neg (by omega)]
  rw [key r _ hr, putK, if_pos hx]
theorem hb_low (ps : List (Nat × Nat)) (at_ v : Nat) (l r : List (Nat × Nat)) (hp : ps = l ++ (at_, v) :: r) (hr : ∀ q ∈ r, at_ + 4 ≤ q.1) (hv : v < 4294967296) : lowD (hF ps) at_ 4 = v ∧ lowD (hF ps) at_ 2 = v % 65536 ∧ lowD (hF ps) (at_ + 2) 2 = v / 65536 := by
  have b0 := hb_at ps at_ at_ v l r hp (by omega) hr
  have b1 := hb_at ps (at_ + 1) at_ v l r hp (by omega) hr
  have b2 := hb_at ps (at_ + 2) at_ v l r hp (by omega) hr
  have b3 := hb_at ps (at_ + 3) at_ v l r hp (by omega) hr
  rw [Nat.sub_self, Nat.mul_zero, Nat.pow_zero, Nat.div_one] at b0
  rw [Nat.add_sub_cancel_left] at b1 b2 b3
  rw [show (2 : Nat) ^ (8 * 1) = 256 from rfl] at b1
  rw [show (2 : Nat) ^ (8 * 2) = 65536 from rfl] at b2
  rw [show (2 : Nat) ^ (8 * 3) = 16777216 from rfl] at b3
  simp only [lowD, Nat.add_assoc, Nat.reduceAdd]
  rw [b0, b1, b2, b3]
  refine ⟨by omega, by omega, by omega⟩
theorem hb_0 (ps : List (Nat × Nat)) (x : Nat) (h : ∀ q ∈ ps, x < q.1) : hF ps x = F0 x := by
  unfold hF
  have key : ∀ (r : List (Nat × Nat)) (g : Nat → Nat), (∀ q ∈ r, x < q.1) → (r.foldl (fun f p => putK f p.1 p.2 4) g) x = g x := by
    intro r
    induction r with
    | nil => intro g _; rfl
    | cons q r ih =>
      intro g h
      rw [List.foldl_cons, ih _ (fun q' hq' => h q' (List.mem_cons_of_mem _ hq'))]
      have := h q (List.mem_cons_self ..)
      rw [putK, if_neg (by omega)]
  exact key ps F0 h
/-- The head's bytes. -/
theorem hF_P (W H : Nat) (hW : W ≤ 256) (hH : H ≤ 256) : hF (psP W H) 0 = 66 ∧ hF (psP W H) 1 = 77 ∧ lowD (hF (psP W H)) 10 4 = 122 ∧ lowD (hF (psP W H)) 14 4 = 108 ∧ lowD (hF (psP W H)) 18 4 = W ∧ lowD (hF (psP W H)) 22 4 = H ∧ lowD (hF (psP W H)) 26 2 = 1 ∧ lowD (hF (psP W H)) 28 2 = 32 ∧ lowD (hF (psP W H)) 30 4 = 3 ∧ ∀ i, i < 4 → lowD (hF (psP W H)) (54 + 4 * i) 4 = mkL i := by
  have q26 := hb_low (psP W H) 26 2097153 [(10, 122), (14, 108), (18, W), (22, H)] _ rfl (by intro q hq; simp at hq; rcases hq with rfl | rfl | rfl | rfl | rfl <;> simp) (by omega)
  refine ⟨hb_0 _ _ (by intro q hq; simp [psP] at hq; rcases hq with rfl | rfl | rfl | rfl | rfl | rfl | rfl | rfl | rfl | rfl <;> simp), hb_0 _ _ (by intro q hq; simp [psP] at hq; rcases hq with rfl | rfl | rfl | rfl | rfl | rfl | rfl | rfl | rfl | rfl <;> simp), ?_, ?_, ?_, ?_, q26.2.1, q26.2.2, ?_, fun i hi => ?_⟩
  · exact (hb_low (psP W H) 10 122 [] _ rfl (by intro q hq; simp at hq; rcases hq with rfl | rfl | rfl | rfl | rfl | rfl | rfl | rfl | rfl <;> simp) (by omega)).1
  · exact (hb_low (psP W H) 14 108 [(10, 122)] _ rfl (by intro q hq; simp at hq; rcases hq with rfl | rfl | rfl | rfl | rfl | rfl | rfl | rfl <;> simp) (by omega)).1
  · exact (hb_low (psP W H) 18 W [(10, 122), (14, 108)] _ rfl (by intro q hq; simp at hq; rcases hq with rfl | rfl | rfl | rfl | rfl | rfl | rfl <;> simp) (by omega)).1
  · exact (hb_low (psP W H) 22 H [(10, 122), (14, 108), (18, W)] _ rfl (by intro q hq; simp at hq; rcases hq with rfl | rfl | rfl | rfl | rfl | rfl <;> simp) (by omega)).1
  · exact (hb_low (psP W H) 30 3 [(10, 122), (14, 108), (18, W), (22, H), (26, 2097153)] _ rfl (by intro q hq; simp at hq; rcases hq with rfl | rfl | rfl | rfl <;> simp) (by omega)).1
  · have h : i = 0 ∨ i = 1 ∨ i = 2 ∨ i = 3 := by omega
    rcases h with rfl | rfl | rfl | rfl
    · exact (hb_low (psP W H) 54 255 [(10, 122), (14, 108), (18, W), (22, H), (26, 2097153), (30, 3)] _ rfl (by intro q hq; simp at hq; rcases hq with rfl | rfl | rfl <;> simp) (by omega)).1
    · exact (hb_low (psP W H) 58 65280 [(10, 122), (14, 108), (18, W), (22, H), (26, 2097153), (30, 3), (54, 255)] _ rfl (by intro q hq; simp at hq; rcases hq with rfl | rfl <;> simp) (by omega)).1
    · exact (hb_low (psP W H) 62 16711680 [(10, 122), (14, 108), (18, W), (22, H), (26, 2097153), (30, 3), (54, 255), (58, 65280)] _ rfl (by intro q hq; simp at hq; subst hq; simp) (by omega)).1
    · exact (hb_low (psP W H) 66 4278190080 [(10, 122), (14, 108), (18, W), (22, H), (26, 2097153), (30, 3), (54, 255), (58, 65280), (62, 16711680)] _ rfl (by intro q hq; simp at hq) (by omega)).1
end Go.Proofs.YthgafdbdmemkhaaDoor

namespace Go.Proofs.YthgafdbdmemkhaaDoor
set_option maxRecDepth 100000
set_option linter.unusedVariables false
open Go.ChangeShapes Go.WideShapes Go.ChangeAt Go.RowKit

def pt4 (p : P4) (i : Nat) : Nat := if i = 0 then p.1 else if i = 1 then p.2.1 else if i = 2 then p.2.2.1 else p.2.2.2
theorem setC_at (c : Nat → Nat) (k : Nat) (p : P4) (i : Nat) (hi : i < 4) : setC c k p (4 * k + i) = pt4 p i := by
  have h : i = 0 ∨ i = 1 ∨ i = 2 ∨ i = 3 := by omega
  unfold setC pt4
  rcases h with rfl | rfl | rfl | rfl
  · rw [if_pos (by omega), if_pos rfl]
  · rw [if_neg (by omega), if_pos (by omega), if_neg (by omega), if_pos rfl]
  · rw [if_neg (by omega), if_neg (by omega), if_pos (by omega), if_neg (by omega), if_neg (by omega), if_pos rfl]
  · rw [if_neg (by omega), if_neg (by omega), if_neg (by omega), if_pos (by omega), if_neg (by omega), if_neg (by omega), if_neg (by omega)]
theorem setC_oth (c : Nat → Nat) (k : Nat) (p : P4) (j : Nat) (h : j / 4 ≠ k) : setC c k p j = c j := by
  unfold setC
  rw [if_neg (by omega), if_neg (by omega), if_neg (by omega), if_neg (by omega)]
theorem drawB_all {px : Nat → Option P4} {pos : Nat → Nat} {P : Nat → P4} : ∀ (k t0 : Nat) (c0 : Nat → Nat), (∀ t, t0 ≤ t → t < t0 + k → px t = some (P t)) → (∀ s t, t0 ≤ s → s < t0 + k → t0 ≤ t → t < t0 + k → pos s = pos t → s = t) →
    ∃ c1, drawB px pos k t0 c0 = some c1 ∧ (∀ t, t0 ≤ t → t < t0 + k → ∀ i, i < 4 → c1 (4 * pos t + i) = pt4 (P t) i) ∧ (∀ j, (∀ t, t0 ≤ t → t < t0 + k → pos t ≠ j / 4) → c1 j = c0 j)
  | 0, t0, c0, _, _ => ⟨c0, rfl, fun t h1 h2 => absurd h2 (by omega), fun j _ => rfl⟩
  | k + 1, t0, c0, hp, hi => by
    obtain ⟨c1, h1, h2, h3⟩ := drawB_all k (t0 + 1) (setC c0 (pos t0) (P t0)) (fun t a b => hp t (by omega) (by omega)) (fun s t a b c d e => hi s t (by omega) (by omega) (by omega) (by omega) e)
    refine ⟨c1, ?_, fun t a b i hi4 => ?_, fun j hj => ?_⟩
    · rw [drawB, hp t0 (Nat.le_refl _) (by omega)]
      exact h1
    · by_cases ht : t = t0
      · subst ht
        rw [h3 (4 * pos t + i) (fun s x y e => ?_), setC_at _ _ _ _ hi4]
        have h4 : (4 * pos t + i) / 4 = pos t := by omega
        rw [h4] at e
        have := hi s t (by omega) (by omega) (by omega) (by omega) e
        omega
      · exact h2 t (by omega) (by omega) i hi4
    · rw [h3 j (fun t a b => hj t (by omega) (by omega)), setC_oth _ _ _ _ (fun e => hj t0 (Nat.le_refl _) (by omega) e.symm)]
theorem lowD_congr {d e : Nat → Nat} : ∀ (k p : Nat), (∀ j, p ≤ j → j < p + k → d j = e j) → lowD d p k = lowD e p k
  | 0, p, h => rfl
  | k + 1, p, h => by
    rw [lowD, lowD, h p (Nat.le_refl _) (by omega), lowD_congr k (p + 1) (fun j a b => h j (by omega) (by omega))]
theorem lowD_four (d : Nat → Nat) (p : Nat) : lowD d p 4 = d p + 256 * (d (p + 1) + 256 * (d (p + 2) + 256 * d (p + 3))) := by
  simp only [lowD, Nat.add_assoc, Nat.mul_zero, Nat.add_zero, Nat.reduceAdd]
/-- A file of the plainest kind; hb: the height's number. -/
structure PlD (d c : Nat → Nat) (W H hn : Nat) : Prop where
  b0 : d 0 = 66
  b1 : d 1 = 77
  off : lowD d 10 4 = 122
  size : lowD d 14 4 = 108
  wide : lowD d 18 4 = W
  high : lowD d 22 4 = hn
  planes : lowD d 26 2 = 1
  bits : lowD d 28 2 = 32
  kind : lowD d 30 4 = 3
  masks : ∀ i, i < 4 → lowD d (54 + 4 * i) 4 = mkL i
  pix : ∀ t, t < 4 * W * H → d (122 + t) = plB c W H t
def at4 (c : Nat → Nat) (q : Nat) : P4 := (c (4 * q), c (4 * q + 1), c (4 * q + 2), c (4 * q + 3))
theorem pt4_at4 (c : Nat → Nat) (q i : Nat) (hi : i < 4) : pt4 (at4 c q) i = c (4 * q + i) := by
  have h : i = 0 ∨ i = 1 ∨ i = 2 ∨ i = 3 := by omega
  rcases h with rfl | rfl | rfl | rfl <;> rfl
section
variable {d c : Nat → Nat} {W H hn : Nat}
theorem PlD.mask (h : PlD d c W H hn) : bmMask d = mkL := by
  have hs : bmS d = 108 := h.size
  have hk : bmK d = 3 := h.kind
  have hb : bmBits d = 32 := h.bits
  have hm : bmMany d = 4 := by rw [bmMany, if_pos hs]
  funext i
  rw [bmMask, hm]
  by_cases hi : i < 4
  · rw [if_pos ⟨hk, hi⟩]
    exact h.masks i hi
  · rw [if_neg (fun q => hi q.2), hb, mDef_32]
    unfold m32 mkL
    rw [if_neg (by omega), if_neg (by omega), if_neg (by omega), if_neg (by omega), if_neg (by omega), if_neg (by omega), if_neg (by omega)]
theorem PlD.px (h : PlD d c W H hn) (hc : ∀ i, i < 4 * W * H → c i % 257 = 0 ∧ c i < 65536) (hW : 1 ≤ W) (t : Nat) (ht : t < W * H) : pxR d W 32 122 (bmMask d) [] t = some (at4 c (posR W H false t)) := by
  have hm := h.mask
  have hwd : bmWide W 32 = 4 * W := by unfold bmWide; omega
  have hdm := Nat.div_add_mod t W
  obtain ⟨k, hk⟩ : ∃ k, k = t / W := ⟨_, rfl⟩
  obtain ⟨i, hi⟩ : ∃ i, i = t % W := ⟨_, rfl⟩
  have hiW : i < W := by rw [hi]; exact Nat.mod_lt _ hW
  rw [← hk, ← hi] at hdm
  have hkH : k < H := by
    rw [hk]
    exact Nat.div_lt_of_lt_mul ht
  have hp : posR W H false t = (H - 1 - k) * W + i := by
    unfold posR bmY
    rw [← hk, ← hi, if_neg (by decide)]
  rw [hp]
  unfold pxR bmPx
  rw [← hk, ← hi, if_neg (by omega), if_neg (by omega), if_pos rfl, hm, hwd]
  obtain ⟨Z, hZ⟩ : ∃ Z, Z = W * k := ⟨_, rfl⟩
  have hZ2 : k * (4 * W) = 4 * Z := by rw [hZ, Nat.mul_comm k, Nat.mul_assoc]
  have hT : 4 * W * H = 4 * (W * H) := Nat.mul_assoc ..
  rw [← hZ] at hdm
  have hq : ∀ j, j < 4 → d (122 + k * (4 * W) + 4 * i + j) = c (4 * ((H - 1 - k) * W + i) + j) / 257 ∧ c (4 * ((H - 1 - k) * W + i) + j) % 257 = 0 ∧ c (4 * ((H - 1 - k) * W + i) + j) < 65536 := fun j hj => by
    have e1 : 122 + k * (4 * W) + 4 * i + j = 122 + (k * (4 * W) + (4 * i + j)) := by omega
    rw [e1, h.pix _ (by rw [hZ2, hT]; omega)]
    unfold plB
    rw [div_row (by omega), mod_row (by omega)]
    have e2 : 4 * W * (H - 1 - k) + (4 * i + j) = 4 * ((H - 1 - k) * W + i) + j := by
      rw [Nat.mul_assoc, Nat.mul_comm W, Nat.mul_add]
      omega
    rw [e2]
    have hlt : 4 * ((H - 1 - k) * W + i) + j < 4 * W * H := by
      have h1 : (H - 1 - k + 1) * W ≤ H * W := Nat.mul_le_mul_right W (by omega)
      rw [Nat.add_mul, Nat.one_mul] at h1
      rw [hT, Nat.mul_comm W H]
      omega
    exact ⟨rfl, hc _ hlt⟩
  obtain ⟨q, hqe⟩ : ∃ q, q = (H - 1 - k) * W + i := ⟨_, rfl⟩
  rw [← hqe] at hq ⊢
  obtain ⟨b0, m0, l0⟩ := hq 0 (by omega)
  obtain ⟨b1, m1, l1⟩ := hq 1 (by omega)
  obtain ⟨b2, m2, l2⟩ := hq 2 (by omega)
  obtain ⟨b3, m3, l3⟩ := hq 3 (by omega)
  simp only [Nat.add_zero] at b0 m0 l0
  rw [lowD_four, b0, b1, b2, b3]
  obtain ⟨x0, hx0⟩ : ∃ x, x = c (4 * q) := ⟨_, rfl⟩
  obtain ⟨x1, hx1⟩ : ∃ x, x = c (4 * q + 1) := ⟨_, rfl⟩
  obtain ⟨x2, hx2⟩ : ∃ x, x = c (4 * q + 2) := ⟨_, rfl⟩
  obtain ⟨x3, hx3⟩ : ∃ x, x = c (4 * q + 3) := ⟨_, rfl⟩
  unfold at4
  rw [← hx0] at m0 l0 ⊢
  rw [← hx1] at m1 l1 ⊢
  rw [← hx2] at m2 l2 ⊢
  rw [← hx3] at m3 l3 ⊢
  clear hx0 hx1 hx2 hx3 b0 b1 b2 b3 hq
  unfold bm4
  obtain ⟨v, hv⟩ : ∃ v, v = x0 / 257 + 256 * (x1 / 257 + 256 * (x2 / 257 + 256 * (x3 / 257))) := ⟨_, rfl⟩
  rw [← hv]
  obtain ⟨r0, r1, r2, r3⟩ := bmL v
  rw [r0, r1, r2, r3]
  have e0 : (((v % 256 : Nat) : Int) * 257).toNat = x0 := by omega
  have e1 : (((v / 256 % 256 : Nat) : Int) * 257).toNat = x1 := by omega
  have e2 : (((v / 65536 % 256 : Nat) : Int) * 257).toNat = x2 := by omega
  have e3 : (((v / 16777216 % 256 : Nat) : Int) * 257).toNat = x3 := by omega
  rw [e0, e1, e2, e3]
/-- It is read: hn is the height's number, down: from the top. -/
theorem PlD.read (h : PlD d c W H hn) (down : Bool) (hh : sgnV hn = if down = true then -(H : Int) else (H : Int)) (hc : ∀ i, i < 4 * W * H → c i % 257 = 0 ∧ c i < 65536) (hz : sizeE (W : Nat) (H : Nat) = 0) (n : Nat) (hn : n = 122 + 4 * W * H) (hnm : n ≤ 262144) :
    bmW d = (W : Nat) ∧ (bmH d).natAbs = H ∧ ∃ c', bmG d n = (c', 0) ∧ ∀ t, t < W * H → ∀ i, i < 4 → c' (4 * posR W H down t + i) = c (4 * posR W H false t + i) := by
  obtain ⟨s1, s2, s3, s4, s5⟩ := size_ok hz
  have hw : bmW d = (W : Nat) := by unfold bmW; rw [h.wide, sgnV, if_pos (by omega)]
  have hhe : bmH d = if down = true then -(H : Int) else (H : Int) := by unfold bmH; rw [h.high]; exact hh
  have ha : (bmH d).natAbs = H := by rw [hhe]; split <;> omega
  refine ⟨hw, ha, ?_⟩
  have hs : bmS d = 108 := h.size
  have hk : bmK d = 3 := h.kind
  have hb : bmBits d = 32 := h.bits
  have hm : bmMany d = 4 := by rw [bmMany, if_pos hs]
  have hmk := h.mask
  have hof : bmOff d = 122 := h.off
  have hfine : bmFine (bmBits d) (bmK d) (bmH d) = true := by rw [hb, hk]; unfold bmFine; exact decide_eq_true ⟨by omega, by omega, by omega, by omega, by omega⟩
  have hne : bmH d ≠ 0 := by rw [hhe]; split <;> omega
  have hE1 : headE d n = 0 := headE_0 (by omega) ⟨h.b0, h.b1⟩ (by omega) (by omega) ⟨h.planes, by rw [hw]; omega, hne, hfine⟩ (by rw [hw, ha]; exact not_not_intro hz)
  have hE2 : swE d n = 0 := by rw [swE, if_neg (by omega), if_neg (by rw [hmk, hb, masks_L]; simp), if_neg (by omega), if_neg (by omega)]
  have he1 : bmE1 d = 122 := by rw [bmE1, hs, if_neg (by omega)]
  have he2 : bmE2 d = 122 := by rw [bmE2, he1, if_neg (by omega)]
  have hE3 : offE d n = 0 := by rw [offE, if_neg (by omega), if_neg (by omega)]
  have hE : bmErr d n = 0 := by rw [bmErr_eq d n (by omega), hE1, hE2, hE3]; rfl
  have hcol : bmCols d = [] := cols_nil (by omega)
  have hdn : decide (bmH d < 0) = down := by
    rw [hhe]
    cases down
    · simp
    · simp; omega
  have hwd : bmWide W 32 = 4 * W := by unfold bmWide; omega
  rw [bmG, hE, if_neg (by simp), if_neg (by omega), hw, ha, hb, hof, hdn, hcol, Int.toNat_natCast, bmRows_eq, hwd, if_neg (by omega)]
  have hW1 : 1 ≤ W := by omega
  have hinj : ∀ s t, 0 ≤ s → s < 0 + W * H → 0 ≤ t → t < 0 + W * H → posR W H down s = posR W H down t → s = t := fun s t _ a _ b e => by
    have d1 := Nat.div_add_mod s W
    have d2 := Nat.div_add_mod t W
    have m1 := Nat.mod_lt s hW1
    have m2 := Nat.mod_lt t hW1
    have k1 : s / W < H := Nat.div_lt_of_lt_mul (by omega)
    have k2 : t / W < H := Nat.div_lt_of_lt_mul (by omega)
    unfold posR at e
    have q1 : bmY H down (s / W) = bmY H down (t / W) := by
      have := congrArg (· / W) e
      simpa [div_row m1, div_row m2] using this
    have q2 : s % W = t % W := by
      have := congrArg (· % W) e
      simpa [mod_row m1, mod_row m2] using this
    have q3 : s / W = t / W := by
      unfold bmY at q1
      split at q1 <;> omega
    rw [← d1, ← d2, q2, q3]
  obtain ⟨c1, h1, h2, h3⟩ := drawB_all (px := pxR d W 32 122 (bmMask d) []) (pos := posR W H down) (P := fun t => at4 c (posR W H false t)) (W * H) 0 noB (fun t _ ht => h.px hc hW1 t (by omega)) hinj
  refine ⟨c1, by rw [rowR, h1], fun t ht i hi => ?_⟩
  rw [h2 t (Nat.zero_le _) (by omega) i hi, pt4_at4 _ _ _ hi]
end
end Go.Proofs.YthgafdbdmemkhaaDoor

namespace Go.Proofs.YthgafdbdmemkhaaDoor
set_option maxRecDepth 100000
set_option linter.unusedVariables false
open Go.ChangeShapes Go.WideShapes Go.ChangeAt Go.RowKit

theorem gTab : Tryd.prog.globalNamed "math/bits.deBruijn32tab" = some 0 := by kernel_rfl
theorem tTab : (Tryd.prog.globals[0]?).map (·.type) = some 101 := by kernel_rfl
theorem tab_list : (Rows.laid_math_bits_deBruijn32tab : DataW Unit) = .agg (Lib.deBruijn32tab.map fun n => .lit (.int .u8 ((n : Nat) : Int))) := rfl
/-- What the condition gives the walks: the table stands. -/
theorem of_laid {W : World} (h : laidMetH Tryd.prog [("math/bits.deBruijn32tab", Rows.laid_math_bits_deBruijn32tab)] W) : TabW W := by
  rw [MakeChecks.laidMetH_plain _ _ _ (by kernel_rfl)] at h
  obtain ⟨ps, ⟨g0, t0, cs0, f0, p0, q0, hg0, ht0, hv0, hd0, _, _⟩, _, _⟩ := h
  obtain rfl := Option.some.inj (gTab.symm.trans hg0)
  obtain rfl := Option.some.inj (tTab.symm.trans ht0)
  obtain ⟨xs, m1, rfl, hx1, hlen, hn3, hel⟩ := DataW.trod_array Tryd.underlying101 hd0
  have c1 : Tryd.prog.cellsOf 5 = 1 := by kernel_rfl
  have hcell : ∀ j, j < 32 → W.cell? ⟨0, j, none⟩ = some (.int .u8 ((Lib.deBruijn32tab.getD j 0 : Nat) : Int)) := fun j hj => by
    have h0 := hel j hj
    rw [tab_list] at hx1
    simp only [Prod.mk.injEq, DataW.agg.injEq] at hx1
    have hxj : (xs.map (·.1))[j]? = some (.lit (.int .u8 ((Lib.deBruijn32tab.getD j 0 : Nat) : Int))) := by
      rw [← hx1.1, List.getElem?_map]
      have hl : j < Lib.deBruijn32tab.length := hj
      rw [List.getElem?_eq_getElem hl, List.getD_eq_getElem?_getD, List.getElem?_eq_getElem hl]
      rfl
    rw [List.getElem?_map] at hxj
    cases hx : xs[j]? with
    | none => rw [hx] at hxj; cases hxj
    | some x =>
      rw [hx] at hxj h0
      obtain ⟨k, e1, e2, _⟩ := DataW.trod_int Tryd.underlying5 h0
      rw [e2] at hxj
      simp only [Option.map_some, Option.some.injEq, DataW.lit.injEq, Lit.int.injEq, true_and] at hxj
      rw [← hxj]
      have := World.var?_cell hg0 hv0 j
      rw [this]
      rw [c1, Nat.mul_one] at e1
      have e3 : (cs0.toList.drop j)[0]? = some (.int .u8 k) := by
        have := congrArg (fun l => l[0]?) e1
        simpa using this
      rw [List.getElem?_drop, Nat.add_zero] at e3
      rw [← Array.getElem?_toList]
      exact e3
  refine ⟨?_, hcell⟩
  exact lt_of_cell (hcell 0 (by omega))
section
variable {H : Type} {enc : TypeId × Value → H}
theorem law_returns_laid {os : Os} {f : FuncId} {fn : Func} {s : ChangeSpec} {tb : TypeId} (own : ownKnob Tryd.checked.prog.godebug = none) (started : os.Started)
    (hi : Tryd.checked.prog.inits.idxOf? f = none) (hf : Tryd.checked.prog.funcs[f]? = some fn)
    (hl : laidOutB Tryd.checked.prog = true) (hu : Tryd.checked.prog.underlying tb = some .bool) (hres : fn.resultTypes = #[tb]) (hvars : s.vars = [])
    (hr : ∀ t, t ∈ fn.params.toList → Tryd.checked.prog.readableRec t = true ∧ t < Tryd.checked.prog.types.size)
    (hspec : ∀ ds : List (DataW H), ds.length = fn.params.size → s.fn H (ds ++ []) = { results := [.lit (.bool true)], args := ds })
    (wit : ∃ (w : World) (tape : Tape) (i : Input), w.os = os ∧ (w.forCall tape i).Shaped Tryd.checked.prog ∧ i.vars = [] ∧ Input.okWide Tryd.checked.prog (w.forCall tape i) .any w.heap.size f i ∧
      ((s.pre enc Tryd.checked.prog fn [] false (w.forCall tape i).memory i.args ∧ laidMetH Tryd.checked.prog [("math/bits.deBruijn32tab", Rows.laid_math_bits_deBruijn32tab)] (w.forCall tape i).memory) ∧ sizedMet enc Tryd.checked.prog fn (OpenSpec.ofChange s) false (w.forCall tape i).memory i.args) ∧ ({} : Assume).holds Tryd.checked.prog (lone (Frame.enter Tryd.checked.prog f i.args .normal) [] (w.forCall tape i)))
    (con : ∀ (W : World) (base : Nat) (args : Array Value) (ds : List (DataW H)) (p : List MemPlace),
      (∀ (j : Nat) (t : TypeId) (v : Value), fn.params[j]? = some t → args[j]? = some v → Value.okWide Tryd.checked.prog W Reach.any base t v) →
      DataW.TrodAll enc Tryd.checked.prog W 0 (fun _ => true) true fn.params.toList args.toList ds p → W.noneFrozen p →
      ((DataW.weightsEach Tryd.checked.prog fn.params.toList ds).all fun x => decide (x ≤ reachBytes)) = true → TabW W →
      Calls Tryd.checked.prog f args W fun e W' => e = .returned (.bool true) ∧ Below W.heap.size W W') :
    ReturnsInHanded {} Tryd.checked os f .any (fun w args => (s.pre enc Tryd.checked.prog fn [] false w args ∧ laidMetH Tryd.checked.prog [("math/bits.deBruijn32tab", Rows.laid_math_bits_deBruijn32tab)] w) ∧ sizedMet enc Tryd.checked.prog fn (OpenSpec.ofChange s) false w args)
      (s.post enc Tryd.checked.prog fn false true false false) := by
  refine returnsInHanded_of_change_and (C := Tryd.checked) (X := fun w _ => laidMetH Tryd.checked.prog [("math/bits.deBruijn32tab", Rows.laid_math_bits_deBruijn32tab)] w) (fun _ _ _ hh h => h.of_heap hh) own started hi hf wit ?_
  intro W base args ds gs before hval hW _ hsz hX _
  have hW2 := hW
  obtain ⟨p, q, hA, hV, hpq, hz, hn⟩ := hW2
  rw [hvars] at hV
  obtain ⟨hgs, hq⟩ := trodVars_none hV
  subst hgs hq hpq
  have hsz' : ((DataW.weightsEach Tryd.checked.prog fn.params.toList ds).all fun x => decide (x ≤ reachBytes)) = true := by
    have e : DataSpec.varTypes Tryd.checked.prog s.plain = [] := by
      unfold DataSpec.varTypes
      have : s.plain.vars = [] := hvars
      simp [this]
    rw [e] at hsz
    simpa using hsz
  refine (con W base args ds p hval hA (by simpa using hz) hsz' (of_laid hX)).mono fun e W' ⟨he, hb⟩ => ?_
  exact ⟨_, he, law_post hl hu hres hvars hr hspec hW hb⟩
end
end Go.Proofs.YthgafdbdmemkhaaDoor

namespace Go.Proofs.YthgafdbdmemkhaaDoor
set_option maxRecDepth 100000
set_option linter.unusedVariables false
open Go.ChangeShapes Go.WideShapes Go.ChangeAt Go.RowKit

section
variable {H : Type} {enc : TypeId × Value → H} {P : Program} {w : World}
/-- A slice in one cell: its elements' cells, and that each reads. -/
theorem open_sl1 {t e size fuel : Nat} {v : Value} {y : DataW H × List MemPlace} (ht : P.underlying t = some (.slice e)) (hsz : P.cellsOf e = size) (hpos : 0 < size)
    (hf : DataW.trod enc P w 0 (fun _ => true) true fuel t [v] = some y) :
    ∃ (n : Nat) (E : Nat → List Value), Sl w v size n ((List.range n).flatMap E) ∧ (∀ i, i < n → (E i).length = size) ∧
      (∀ i, i < n → ∃ fuel y, DataW.trod enc P w 0 (fun _ => true) true fuel e (E i) = some y) ∧ ∀ n' cap, v = .slice none n' cap → cap = 0 := by
  rcases Go.Deep.open_slice ht hf with ⟨hcs, _⟩ | ⟨a, len, cap, m, n, D, Pl, hcs, _, hl, hm, hmm, _, hx⟩
  · simp at hcs
    subst hcs
    exact ⟨0, fun _ => [], by simpa using Sl.nil w size, fun i hi => by omega, fun i hi => by omega, fun n' cap h => by injection h with _ _ h; exact h.symm⟩
  · simp at hcs
    subst hcs
    simp only [if_true] at hmm
    subst hmm
    have hx' : ∀ i, i < len → ∃ cs' : List Value, w.cells? 0 (a.add (i * P.cellsOf e)) (P.cellsOf e) = some cs' ∧ DataW.trod enc P w 0 (fun _ => true) true n e cs' = some (D i, Pl i) := fun i hi => hx i (by omega)
    obtain ⟨E, hE⟩ := Go.Deep.choose_lt (α := List Value) hx'
    have hlen : ∀ i, i < len → (E i).length = size := fun i hi => by
      obtain ⟨_, h2, _⟩ := World.cells?_some (hE i hi).1
      rw [← hsz]; exact h2
    have hcell : ∀ i j, i < len → j < size → w.cell? (a.add (i * size + j)) = (E i)[j]? := fun i j hi hj => by
      obtain ⟨_, h2, h3⟩ := World.cells?_some (hE i hi).1
      have hj' : j < P.cellsOf e := by rw [hsz]; exact hj
      have := h3 j hj'
      rw [Go.Deep.add_add, hsz] at this
      exact this
    refine ⟨len, E, ⟨flat_len E hlen, some a, _, rfl, hl, hm, fun hn => ?_⟩, hlen, fun i hi => ⟨n, _, (hE i hi).2⟩, fun n' cap' h => by cases h⟩
    have h00 := hcell 0 0 hn hpos
    have hs0 : (E 0)[0]? = some ((E 0)[0]'(by rw [hlen 0 hn]; exact hpos)) := List.getElem?_eq_getElem _
    rw [hs0] at h00
    have hspot : a.spot = none := by
      have e0 : a.add (0 * size + 0) = a := by simp [Addr.add]
      rw [e0] at h00
      unfold World.cell? at h00
      split at h00
      · split at h00
        · cases h00
        · rename_i hsp
          cases hs : a.spot with
          | none => rfl
          | some x => rw [hs] at hsp; simp at hsp
      · cases h00
    obtain ⟨b, off, sp⟩ := a
    simp only at hspot
    subst hspot
    have hb : b < w.heap.size := by
      have := World.block_lt_of_cell? w _ h00
      simpa [Addr.add] using this
    refine ⟨b, off, rfl, hb, fun j hj => ?_⟩
    have hi : j / size < len := Nat.div_lt_of_lt_mul (by rw [Nat.mul_comm]; exact hj)
    have hr : j % size < size := Nat.mod_lt _ hpos
    have hdm : j / size * size + j % size = j := by rw [Nat.mul_comm]; exact Nat.div_add_mod j size
    have h1 := hcell (j / size) (j % size) hi hr
    have h2 := flat_get (n := len) E hlen (j / size) (j % size) hi hr
    rw [hdm] at h1 h2
    rw [h2, ← h1, Addr.add_lit]
end
section
variable {H : Type} {enc : TypeId × Value → H} {W : World}
theorem struct25 : ∃ f0 f1 f2 : Field, Tryd.prog.underlying 24 = some (.struct #[f0, f1, f2]) ∧ Deep.oneCellFields Tryd.prog #[f0, f1, f2] = true ∧ f0.type = 3 ∧ f1.type = 3 ∧ f2.type = 22 :=
  ⟨_, _, _, Tryd.underlying24, by kernel_rfl, rfl, rfl, rfl⟩
theorem wf64 {a : Int} (h : (Lit.int .i64 a).wf = true) : In64 a := by
  unfold In64
  simpa [Lit.wf, IntKind.min, IntKind.max, IntKind.signed, IntKind.bits] using h
theorem wf16' {a : Int} (h : (Lit.int .u16 a).wf = true) : 0 ≤ a ∧ a ≤ 65535 := by
  simpa [Lit.wf, IntKind.min, IntKind.max, IntKind.signed, IntKind.bits] using h
theorem flat_one {n : Nat} (c : Nat → Nat) : (List.range n).flatMap (fun i => [Value.int .u16 (c i : Nat)]) = (List.range n).map fun i => Value.int .u16 (c i : Nat) := by
  induction n with
  | zero => rfl
  | succ n ih => rw [List.range_succ, List.flatMap_append, List.map_append, ih]; rfl
/-- Samples that came in. -/
theorem pix_of {A : Option Addr} {n cap : Nat} {E : Nat → List Value} (hS : Sl W (.slice A n cap) 1 n ((List.range n).flatMap E)) (hE : ∀ i, i < n → (E i).length = 1)
    (hr : ∀ i, i < n → ∃ fuel y, DataW.trod enc Tryd.prog W 0 (fun _ => true) true fuel 39 (E i) = some y) : ∃ c : Nat → Nat, (∀ i, c i < 65536) ∧ Pix W A n c := by
  have h1 : ∀ i, i < n → ∃ m : Nat, E i = [.int .u16 (m : Nat)] ∧ m < 65536 := fun i hi => by
    obtain ⟨fuel, y, hy⟩ := hr i hi
    obtain ⟨k, hk, _, hw⟩ := DataW.trod_int Tryd.underlying39 hy
    obtain ⟨q1, q2⟩ := wf16' hw
    obtain ⟨m, rfl⟩ := Int.eq_ofNat_of_zero_le q1
    exact ⟨m, hk, by omega⟩
  obtain ⟨c, hc⟩ := Go.Deep.choose_lt (α := Nat) h1
  refine ⟨fun i => if i < n then c i else 0, fun i => ?_, fun hn => ?_⟩
  · show (if i < n then c i else 0) < 65536
    split
    · exact (hc i ‹_›).2
    · omega
  · obtain ⟨b, off, rfl, hb, hcell⟩ := hS.cell hn
    refine ⟨b, off, rfl, hb, fun j hj => ?_⟩
    rw [hcell j (by omega)]
    have h2 := flat_get (n := n) E hE j 0 hj (by omega)
    rw [Nat.mul_one, Nat.add_zero] at h2
    rw [h2, (hc j hj).1]
    simp [hj]
theorem open_ras {r : Reach} {b0 : Nat} {v : Value} {d : DataW H} {p : List MemPlace} (hv : Value.okWide Tryd.prog W r b0 24 v) (h : DataW.Trod enc Tryd.prog W 0 (fun _ => true) true 24 v d p) :
    ∃ a b A n cap c, v = .agg #[.int .i64 a, .int .i64 b, .slice A n cap] ∧ In64 a ∧ In64 b ∧ n ≤ cap ∧ cap ≤ maxLen ∧ (A = none → cap = 0) ∧ Pix W A n c ∧ ∀ i, c i < 65536 := by
  obtain ⟨f0, f1, f2, hs, hone, t0, t1, t2⟩ := struct25
  obtain ⟨v0, v1, v2, y0, y1, y2, n, rfl, _, _, h0, h1, h2⟩ := Joins.open_agg3 hs hone (by kernel_rfl) hv h
  rw [t0] at h0
  rw [t1] at h1
  rw [t2] at h2
  obtain ⟨a, ha, _, hwa⟩ := DataW.trod_int Tryd.underlying3 h0
  obtain ⟨b, hb, _, hwb⟩ := DataW.trod_int Tryd.underlying3 h1
  obtain ⟨m, E, hS, hE, hr, hnone⟩ := open_sl1 Tryd.underlying22 (size := 1) (by kernel_rfl) (by decide) h2
  have hS2 := hS
  obtain ⟨_, A, cap, rfl, g1, g2, _⟩ := hS2
  obtain ⟨c, hc, hP⟩ := pix_of hS hE hr
  simp at ha hb
  subst ha hb
  exact ⟨a, b, A, m, cap, c, rfl, wf64 hwa, wf64 hwb, g1, g2, fun h => by subst h; exact hnone _ _ rfl, hP, hc⟩
end
end Go.Proofs.YthgafdbdmemkhaaDoor

namespace Go.Proofs.YthgafdbdmemkhaaDoor
set_option maxRecDepth 100000
set_option linter.unusedVariables false
open Go.ChangeShapes Go.WideShapes Go.ChangeAt Go.RowKit

theorem masks_8 : masksB mk8 32 = true := by decide +kernel
theorem back_mask {d : Nat → Nat} (hs : bmS d = 108) (hk : bmK d = 3) (hb : bmBits d = 32) (h : MaskD d) : bmMask d = mk8 := by
  have hm : bmMany d = 4 := by rw [bmMany, if_pos hs]
  funext i
  rw [bmMask, hm]
  by_cases hi : i < 4
  · rw [if_pos ⟨hk, hi⟩]
    have h4 : i = 0 ∨ i = 1 ∨ i = 2 ∨ i = 3 := by omega
    rcases h4 with rfl | rfl | rfl | rfl
    · exact h.m0
    · exact h.m1
    · exact h.m2
    · exact h.m3
  · rw [if_neg (fun q => hi q.2), hb, mDef_32]
    unfold m32
    rw [if_neg (by omega), if_neg (by omega), if_neg (by omega)]
    match i, hi with
    | 0, hi => exact absurd (by omega) hi
    | 1, hi => exact absurd (by omega) hi
    | 2, hi => exact absurd (by omega) hi
    | 3, hi => exact absurd (by omega) hi
    | i + 4, _ => rfl
theorem back_px {d c : Nat → Nat} {q p : Nat} (hd : ∀ j, d j < 256) (h : PixD true d c p q) : bm4 mk8 (lowD d p 4) = at4 c q := by
  obtain ⟨u0, u1, u2, u3⟩ := bm8 (lowD d p 4)
  obtain ⟨l0, l1, l2, l3⟩ := low4 hd p
  have ha := h.a
  simp only [if_true] at ha
  unfold bm4 at4
  rw [u0, u1, u2, u3, l0, l1, l2, l3, ← h.r, ← h.g, ← h.b, ← ha]
  simp only [← Int.natCast_mul, Prod.mk.injEq]
  refine ⟨?_, ?_, ?_, ?_⟩ <;> omega
theorem posR_in {W H t : Nat} (ht : t < W * H) : posR W H false t < W * H ∧ posR W H false (posR W H false t) = t := by
  have hW : 1 ≤ W := by
    rcases Nat.eq_zero_or_pos W with e | e
    · subst e; omega
    · exact e
  have hm := Nat.mod_lt t hW
  have hd := Nat.div_add_mod t W
  have hk : t / W < H := Nat.div_lt_of_lt_mul ht
  obtain ⟨k, hke⟩ : ∃ k, k = t / W := ⟨_, rfl⟩
  obtain ⟨i, hie⟩ : ∃ i, i = t % W := ⟨_, rfl⟩
  rw [← hke, ← hie] at hd
  rw [← hke] at hk
  rw [← hie] at hm
  have hp : posR W H false t = (H - 1 - k) * W + i := by
    unfold posR bmY
    rw [← hke, ← hie, if_neg (by decide)]
  refine ⟨?_, ?_⟩
  · rw [hp]
    have h1 : (H - 1 - k + 1) * W ≤ H * W := Nat.mul_le_mul_right W (by omega)
    rw [Nat.add_mul, Nat.one_mul] at h1
    rw [Nat.mul_comm W H]
    omega
  · rw [hp]
    unfold posR bmY
    rw [div_row hm, mod_row hm, if_neg (by decide), show H - 1 - (H - 1 - k) = k by omega, ← hd, Nat.mul_comm k W]
theorem enc_read (gt : Bool) (c : Nat → Nat) (a b N : Nat) (hc : ∀ i, c i < 65536) (hab : a * b = N) (ha : 1 ≤ a ∧ a ≤ 256) (hb : 1 ≤ b ∧ b ≤ 256) (hN : N ≤ 16384) (hz : sizeE (a : Nat) (b : Nat) = 0) (h257 : ∀ i, i < 4 * N → c i % 257 = 0) (hop : gt = !opqB N c) (d : Nat → Nat) (hdE : d = gd (fileL gt c a b)) (n : Nat) (hn : n = (fileL gt c a b).length) (hn2 : n ≤ 262144) :
    bmW d = (a : Nat) ∧ (bmH d).natAbs = b ∧ ∃ c', bmG d n = (c', 0) ∧ ∀ j, j < 4 * N → c' j = c j := by
  have hH : HeadD d (sizeH gt) a b (bitsH gt) (kindH gt) := by rw [hdE]; exact file_head gt c hc a b ha.2 hb.2
  have hK : gt = true → MaskD d := fun e => by subst e; rw [hdE]; exact file_mask c a b
  have hP : ∀ k x, k < b → x < a → PixD gt d c (14 + sizeH gt + k * wideH gt a + partsH gt * x) ((b - 1 - k) * a + x) := fun k x hk hx => by
    rw [hdE]
    exact file_px gt c a b N ha.2 hab h257 hop k x hk hx
  have hlen : n = 14 + sizeH gt + wideH gt a * b := by rw [hn]; exact fileL_len gt c a b ha.2
  have hW4 := (wide_bd gt a ha.2).2.1
  have hw : bmW d = (a : Nat) := by unfold bmW; rw [hH.at18, sgnV, if_pos (by omega)]
  have hhe : bmH d = (b : Nat) := by unfold bmH; rw [hH.at22, sgnV, if_pos (by omega)]
  have hna : (bmH d).natAbs = b := by rw [hhe]; rfl
  refine ⟨hw, hna, ?_⟩
  have hs : bmS d = sizeH gt := hH.at14
  have hk : bmK d = kindH gt := hH.at30
  have hbt : bmBits d = bitsH gt := hH.at28
  have hof : bmOff d = 14 + sizeH gt := hH.at10
  have hszk : (gt = true ∧ sizeH gt = 108 ∧ bitsH gt = 32 ∧ kindH gt = 3) ∨ (gt = false ∧ sizeH gt = 40 ∧ bitsH gt = 24 ∧ kindH gt = 0) := by cases gt <;> simp [sizeH, bitsH, kindH]
  have hfine : bmFine (bmBits d) (bmK d) (bmH d) = true := by
    rcases hszk with ⟨_, _, e1, e2⟩ | ⟨_, _, e1, e2⟩
    · rw [hbt, hk, e1, e2]
      unfold bmFine
      exact decide_eq_true ⟨by omega, by omega, fun h => absurd h (by decide), fun h => absurd h (by decide), fun _ => .inr rfl⟩
    · rw [hbt, hk, e1, e2]
      unfold bmFine
      exact decide_eq_true ⟨by omega, by omega, fun h => absurd h (by decide), fun h => absurd h (by decide), fun h => absurd h (by decide)⟩
  have hsz : bmS d = 40 ∨ bmS d = 108 := by omega
  have hwb : wideH gt a = bmWide a (bitsH gt) := rfl
  have hE1 : headE d n = 0 := headE_0 (by omega) ⟨hH.b0, hH.b1⟩ hsz (by omega) ⟨hH.at26, by rw [hw]; omega, by omega, hfine⟩ (by rw [hw, hna]; exact not_not_intro hz)
  have he1 : bmE1 d = 14 + sizeH gt := by rw [bmE1, hs, if_neg (by omega)]; omega
  have he2 : bmE2 d = 14 + sizeH gt := by rw [bmE2, he1, if_neg (by omega)]; omega
  have hmk : gt = true → bmMask d = mk8 := fun e => back_mask (by rw [hs, e]; rfl) (by rw [hk, e]; rfl) (by rw [hbt, e]; rfl) (hK e)
  have hE2 : swE d n = 0 := by
    rw [swE, if_neg (by
      rintro ⟨h1, h2⟩
      have hm : bmMany d = 4 := by rw [bmMany, if_pos (by omega)]
      rw [hm] at h2
      have : 0 ≤ wideH gt a * b := Nat.zero_le _
      omega), if_neg (by
      rintro ⟨h1, h2⟩
      have e : gt = true := by
        rcases hszk with h | h
        · exact h.1
        · omega
      rw [hmk e, hbt] at h2
      subst e
      have : masksB mk8 (bitsH true) = true := masks_8
      rw [this] at h2
      exact absurd h2 (by simp)), if_neg (by omega), if_neg (by omega)]
  have hE3 : offE d n = 0 := by rw [offE, if_neg (by omega), if_neg (by omega)]
  have hE : bmErr d n = 0 := by rw [bmErr_eq d n (by omega), hE1, hE2, hE3]; rfl
  have hcol : bmCols d = [] := cols_nil (by omega)
  have hdn : decide (bmH d < 0) = false := by rw [hhe]; simp
  have hpx : ∀ t, t < a * b → pxR d a (bitsH gt) (14 + sizeH gt) (bmMask d) [] t = some (at4 c (posR a b false t)) := fun t ht => by
    have hm := Nat.mod_lt t (show 0 < a by omega)
    have hkb : t / a < b := Nat.div_lt_of_lt_mul ht
    have hpd := hP (t / a) (t % a) hkb hm
    have hpo : posR a b false t = (b - 1 - t / a) * a + t % a := by
      unfold posR bmY
      rw [if_neg (by decide)]
    rw [hpo]
    unfold pxR bmPx
    rw [← hwb]
    cases gt with
    | true =>
      have e : bitsH true = 32 := rfl
      rw [e, if_neg (by decide), if_neg (by decide), if_pos rfl, hmk rfl]
      exact congrArg some (back_px hH.lt hpd)
    | false =>
      have e : bitsH false = 24 := rfl
      rw [e, if_neg (by decide), if_pos rfl]
      have h4 := hpd.a
      simp only [Bool.false_eq_true, if_false] at h4
      refine congrArg some ?_
      unfold back3 at4
      rw [h4, ← hpd.r, ← hpd.g, ← hpd.b]
      rfl
  rw [bmG, hE, if_neg (by simp), if_neg (by omega), hw, hna, hbt, hof, hdn, hcol, Int.toNat_natCast, bmRows_eq, ← hwb, if_neg (by omega)]
  obtain ⟨c1, h1, h2, h3⟩ := drawB_all (px := pxR d a (bitsH gt) (14 + sizeH gt) (bmMask d) []) (pos := posR a b false) (P := fun t => at4 c (posR a b false t)) (a * b) 0 noB (fun t _ ht => hpx t (by omega)) (fun s t _ x _ y e => by
    have e1 := (posR_in (show s < a * b by omega)).2
    have e2 := (posR_in (show t < a * b by omega)).2
    rw [← e1, ← e2, e])
  refine ⟨c1, by rw [rowR, h1], fun j hj => ?_⟩
  have hq : j / 4 < a * b := by rw [hab]; omega
  obtain ⟨p1, p2⟩ := posR_in hq
  have h4 := h2 (posR a b false (j / 4)) (Nat.zero_le _) (by omega) (j % 4) (Nat.mod_lt _ (by omega))
  rw [p2, pt4_at4 _ _ _ (Nat.mod_lt _ (by omega)), show 4 * (j / 4) + j % 4 = j by omega] at h4
  exact h4
end Go.Proofs.YthgafdbdmemkhaaDoor
