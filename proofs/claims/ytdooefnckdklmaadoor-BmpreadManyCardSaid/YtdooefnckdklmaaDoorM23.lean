/- BmpreadSmall: the walk's states. -/
import Derived.Test.YtdooefnckdklmaaDoorM22

namespace Go.Proofs.YtdooefnckdklmaaDoor
set_option maxRecDepth 100000
set_option linter.unusedVariables false
open Go.ChangeShapes Go.WideShapes Go.ChangeAt Go.RowKit

theorem and64 (x : Nat) (hx : x < 256) : (bits .and .u8 (x : Int) 64 == 64) = decide (x / 64 % 2 = 1) := by
  have h := u8_and_nat x 64 hx (by omega)
  rw [show ((64 : Nat) : Int) = 64 from rfl] at h
  rw [h]
  have k : ∀ y : Fin 256, ((((y.val &&& 64 : Nat) : Int)) == 64) = decide (y.val / 64 % 2 = 1) := by decide
  exact k ⟨x, hx⟩
theorem and_low (v k : Nat) (hv : v < 256) (hk : k ≤ 8) : bits .and .i64 (v : Int) ((2 ^ k - 1 : Nat) : Int) = ((v % 2 ^ k : Nat) : Int) := by
  have h2 : (2 : Nat) ^ k ≤ 2 ^ 8 := Nat.pow_le_pow_right (by omega) hk
  rw [i64_and_nat v (2 ^ k - 1) (by omega) (by omega), Nat.and_two_pow_sub_one_eq_mod]
theorem div_bdI (L : Int) (q : Nat) (h : -1000 ≤ L ∧ L < 4398046511104) : -1000 ≤ L / 2 ^ q ∧ L / 2 ^ q < 4398046511104 := by
  have hp : (0 : Int) < 2 ^ q := by
    have : (2 : Int) ^ q = ((2 ^ q : Nat) : Int) := by simp
    rw [this]
    exact_mod_cast Nat.pow_pos (by omega)
  constructor
  · rw [Int.le_ediv_iff_mul_le hp]
    have : (-1000 : Int) * 2 ^ q ≤ (-1000) * 1 := Int.mul_le_mul_of_nonpos_left (by omega) (by omega)
    omega
  · rw [Int.ediv_lt_iff_lt_mul hp]
    have : (4398046511104 : Int) * 1 ≤ 4398046511104 * 2 ^ q := Int.mul_le_mul_of_nonneg_left (by omega) (by omega)
    omega
/-- What came in stays: the numbers' box, the places. -/
structure StS (xb : Nat) (bx : Array Value) (A : Option Addr) (m : Nat) (b : Nat → Nat) (w wr : World) : Prop where
  box : wr.heap[xb]? = some (.cells bx 50 (0, 0))
  arg : Byt wr A m b
  bel : Below w.heap.size w wr
section
variable {xb m t base : Nat} {bx : Array Value} {A : Option Addr} {b : Nat → Nat} {w wr w' : World} {l : List Nat} {v : Value}
theorem StS.chg {S : List Nat} (h : StS xb bx A m b w wr) (hc : Chg S wr w') (hS : ∀ k ∈ S, xb < k) (hx : w.heap.size ≤ xb) (hA : ∀ a, A = some a → 0 < m → a.block < w.heap.size) : StS xb bx A m b w w' :=
  ⟨hp_chg h.box hc (fun hm => by have := hS _ hm; omega), h.arg.chg hc (fun h0 a ha hm => by have h1 := hA a ha h0; have h2 := hS _ hm; omega), h.bel.trans (hc.below h.bel.size (fun k hk => by have := hS k hk; omega))⟩
theorem StS.below (h : StS xb bx A m b w wr) (hB : Below wr.heap.size wr w') : StS xb bx A m b w w' :=
  ⟨hp_below h.box hB (lt_heap h.box), h.arg.below hB, h.bel.trans (hB.mono h.bel.size)⟩
/-- While the file is written. -/
structure RwS (base xb : Nat) (bx : Array Value) (A : Option Addr) (m : Nat) (b : Nat → Nat) (w : World) (t : Nat) (l : List Nat) (v : Value) (wr : World) : Prop where
  own : wr.ownsRow base 5 1 v t (cellsB l)
  st : StS xb bx A m b w wr
theorem RwS.below (h : RwS base xb bx A m b w t l v wr) (hB : Below wr.heap.size wr w') : RwS base xb bx A m b w t l v w' :=
  ⟨own_chg h.own (Chg.of_below (S := []) hB) (fun _ _ => by simp), h.st.below hB⟩
theorem RwS.app (h : RwS base xb bx A m b w t l v wr) (hx : w.heap.size ≤ xb ∧ xb < base) (hbl : base ≤ wr.heap.size) (hA : ∀ a, A = some a → 0 < m → a.block < w.heap.size) (ml : List Nat) (k : Nat) (hk : ml.length = k) (ht : t < 1000000) (hk2 : k < 1000) :
    ∃ v' w', (Builtin.append_ #[22, 22] 22 #[v, .slice (some ⟨wr.heap.size, 0, none⟩) k k]).run Tryd.prog (wr.alloc (.cells (cellsB ml).toArray 5)) = .ok v' w' ∧ RwS base xb bx A m b w (t + k) (l ++ ml) v' w' ∧ base ≤ w'.heap.size := by
  have hal : Below wr.heap.size wr (wr.alloc (.cells (cellsB ml).toArray 5)) := (Below.refl _ wr).alloc (Nat.le_refl _) _
  have ho := h.own.alloc (.cells (cellsB ml).toArray 5)
  obtain ⟨v', w', r, o, g⟩ := app_lit _ base v t l ml wr.heap.size k hk ho (hp_new0 _ _) ht hk2 (by rw [World.size_alloc]; omega)
  have hc : Chg v.ownBlock.toList wr w' := (Chg.of_below hal).trans (Chg.grown g (fun r e => by rw [e]; simp))
  have hS : ∀ k ∈ v.ownBlock.toList, base ≤ k := fun r hr => (h.own.lt r (by simpa using hr)).1
  exact ⟨v', w', r, ⟨o, h.st.chg hc (fun k hk => by have := hS k hk; omega) hx.1 hA⟩, Nat.le_trans hbl (hc.below hbl hS).size⟩
/-- append of noughts. -/
theorem RwS.zeros {g cap : Nat} (h : RwS base xb bx A m b w t l (.slice (some ⟨g, 0, none⟩) t cap) wr) (hx : w.heap.size ≤ xb ∧ xb < base) (hbl : base ≤ wr.heap.size) (hA : ∀ a, A = some a → 0 < m → a.block < w.heap.size) (k : Nat) (ht : t < 1000000) (hk2 : k < 1000) :
    ∃ v' w', (Builtin.append_ #[22, 3] 22 #[.slice (some ⟨g, 0, none⟩) t cap, .int .i64 (k : Nat)]).run Tryd.prog wr = .ok v' w' ∧ RwS base xb bx A m b w (t + k) (l ++ List.replicate k 0) v' w' ∧ base ≤ w'.heap.size := by
  obtain ⟨i0, hi0, hz0, hz1, hz2⟩ := info_parts info8
  obtain ⟨g', cap', w', r, o, gr, _⟩ := run_app0 (P := Tryd.prog) (w := wr) base 22 3 22 5 i0 (.int .u8 0) 1 .i64 Tryd.underlying22 Tryd.underlying3 hi0 hz0 hz1 hz2 rfl rfl g t cap (cellsB l) h.own k (by unfold maxLen; omega) (by omega) (by omega) (by omega) hbl
  have hc : Chg [g] wr w' := Chg.grown gr (fun r e => by cases e; simp)
  have hS : ∀ k ∈ [g], base ≤ k := fun r hr => by
    rw [List.mem_singleton.1 hr]
    exact (h.own.lt g rfl).1
  refine ⟨_, w', r, ⟨?_, h.st.chg hc (fun k hk => by have := hS k hk; omega) hx.1 hA⟩, Nat.le_trans hbl (hc.below hbl hS).size⟩
  have e : cellsB (l ++ List.replicate k 0) = cellsB l ++ List.replicate k (.int .u8 0) := by simp [cellsB]
  rw [e]
  exact o
/-- append of bytes that lie somewhere. -/
theorem RwS.join {n' cap' : Nat} {A' : Option Addr} {l2 : List Nat} (h : RwS base xb bx A m b w t l v wr) (hx : w.heap.size ≤ xb ∧ xb < base) (hbl : base ≤ wr.heap.size) (hA : ∀ a, A = some a → 0 < m → a.block < w.heap.size) (hB : Byt wr A' n' (gl l2)) (hl2 : l2.length = n') (h0 : 0 < n') (ht : t < 1000000) (hk2 : n' < 1000) :
    ∃ v' w', (Builtin.append_ #[22, 22] 22 #[v, .slice A' n' cap']).run Tryd.prog wr = .ok v' w' ∧ RwS base xb bx A m b w (t + n') (l ++ l2) v' w' ∧ base ≤ w'.heap.size := by
  obtain ⟨i0, hi0, hz0, hz1, hz2⟩ := info_parts info8
  obtain ⟨v', w', r, o, gr, _⟩ := run_app (P := Tryd.prog) (w := wr) base 22 22 5 i0 (.int .u8 0) 1 1 Tryd.underlying22 hi0 hz0 hz1 hz2 rfl (by omega) v t (cellsB l) h.own
    A' n' cap' (cellsB l2) (fun e => by obtain ⟨bk, of, h, _⟩ := hB h0; rw [e] at h; cases h) (by rw [cellsB_len]; omega) (fun _ => by
      obtain ⟨bk, of, h, hlt, hc⟩ := hB h0
      refine ⟨bk, of, h, fun j u hj => ?_⟩
      have hjl := (List.getElem?_eq_some_iff.1 hj).1
      rw [cellsB_len] at hjl
      rw [hc j (by omega)]
      have : (cellsB l2)[j]? = some (.int .u8 ((gl l2 j : Nat) : Int)) := by simp [cellsB, gl, hjl]
      rw [← hj, this]) (by intro u hu; obtain ⟨x, _, rfl⟩ := List.mem_map.1 hu; rfl) (by unfold maxLen; omega) (by omega) hbl
  have hc : Chg v.ownBlock.toList wr w' := Chg.grown gr (fun r e => by rw [e]; simp)
  have hS : ∀ k ∈ v.ownBlock.toList, base ≤ k := fun r hr => (h.own.lt r (by simpa using hr)).1
  refine ⟨v', w', r, ⟨?_, h.st.chg hc (fun k hk => by have := hS k hk; omega) hx.1 hA⟩, Nat.le_trans hbl (hc.below hbl hS).size⟩
  have e : cellsB (l ++ l2) = cellsB l ++ cellsB l2 := by simp [cellsB]
  rw [e]
  exact o
end
/-- The numbers that are written, as cells. -/
def lowS (W bits many gap : Nat) (L : Int) : Array Value := #[.int .i64 10, .int .i64 ((54 + 4 * many + gap : Nat) : Int), .int .i64 14, .int .i64 40, .int .i64 18, .int .i64 (W : Nat), .int .i64 22, .int .i64 L, .int .i64 26, .int .i64 ((1 + bits * 65536 : Nat) : Int), .int .i64 46, .int .i64 (many : Nat)]
theorem neg3_byte (k : Nat) (hk : k < 4) : IntKind.u8.wrap ((-3 : Int) / 2 ^ (8 * k)) = ((4294967293 / 2 ^ (8 * k) % 256 : Nat) : Int) := by
  have h : k = 0 ∨ k = 1 ∨ k = 2 ∨ k = 3 := by omega
  rcases h with rfl | rfl | rfl | rfl <;> decide
theorem lowS_at {W bits many gap : Nat} {dn : Bool} {j : Nat} {p : Nat × Nat} (h : (psS W bits many gap (hnS dn))[j]? = some p) (hb : bits ≤ 8) (hm : many ≤ 16) (hg : gap ≤ 4) (hW : W ≤ 256) :
    (lowS W bits many gap (if dn = true then -3 else 3))[2 * j]? = some (.int .i64 (p.1 : Nat)) ∧ p.1 ≤ 46 ∧ ∃ L : Int, (lowS W bits many gap (if dn = true then -3 else 3))[2 * j + 1]? = some (.int .i64 L) ∧ (-1000 ≤ L ∧ L < 4398046511104) ∧ ∀ k, k < 4 → IntKind.u8.wrap (L / 2 ^ (8 * k)) = ((p.2 / 2 ^ (8 * k) % 256 : Nat) : Int) := by
  match j, h with
  | 0, h => cases h; exact ⟨rfl, by simp, _, rfl, by omega, fun k _ => byte_wrap _ _⟩
  | 1, h => cases h; exact ⟨rfl, by simp, _, rfl, by omega, fun k _ => byte_wrap 40 _⟩
  | 2, h => cases h; exact ⟨rfl, by simp, _, rfl, by omega, fun k _ => byte_wrap _ _⟩
  | 3, h =>
    cases h
    refine ⟨rfl, by simp, _, rfl, by split <;> omega, fun k hk => ?_⟩
    cases dn with
    | true => exact neg3_byte k hk
    | false => exact byte_wrap 3 _
  | 4, h => cases h; exact ⟨rfl, by simp, _, rfl, by omega, fun k _ => byte_wrap _ _⟩
  | 5, h => cases h; exact ⟨rfl, by simp, _, rfl, by omega, fun k _ => byte_wrap _ _⟩
  | j + 6, h => simp [psS] at h
/-- While the head is written. -/
structure HdZ (nb cb lb xb : Nat) (low bx : Array Value) (A : Option Addr) (m : Nat) (b : Nat → Nat) (w : World) (f : Nat → Nat) (wr : World) : Prop where
  own : wr.ownsRow nb 5 1 (.slice (some ⟨nb, 0, none⟩) 54 cb) 54 (cellsB (fL 54 f))
  low : wr.heap[lb]? = some (.cells low 3 (0, 0))
  st : StS xb bx A m b w wr
theorem HdZ.put {nb cb lb xb : Nat} {low bx : Array Value} {A : Option Addr} {m : Nat} {b : Nat → Nat} {w : World} {f : Nat → Nat} {wr : World} (h : HdZ nb cb lb xb low bx A m b w f wr) (hnl : nb ≠ lb) (hx : w.heap.size ≤ xb ∧ xb < nb) (hA : ∀ a, A = some a → 0 < m → a.block < w.heap.size) {at_ v k : Nat} {f0 : Nat → Nat} (hf : f = putK f0 at_ v k) (hk : at_ + k < 54) : HdZ nb cb lb xb low bx A m b w (putK f0 at_ v (k + 1)) ((wr.setCell ⟨nb, at_ + k, none⟩ (.int .u8 ((v / 2 ^ (8 * k) % 256 : Nat) : Int))).drew) := by
  have h1 := (h.own.stored (at_ + k) (.int .u8 ((v / 2 ^ (8 * k) % 256 : Nat) : Int))).1
  rw [← cellsB_set, hf, putK_set hk] at h1
  have hc : Chg [nb] wr ((wr.setCell ⟨nb, at_ + k, none⟩ (.int .u8 ((v / 2 ^ (8 * k) % 256 : Nat) : Int))).drew) := ((Chg.refl [nb] wr).set (.inl (by simp)) _ _).drew
  exact ⟨h1.drew, hp_chg h.low hc (by simp; omega), h.st.chg hc (fun k hk => by simp at hk; omega) hx.1 hA⟩
/-- The reference's writer, made behind w0; what it has lies behind w0, too. -/
def PkH (w0 : World) (g : Nat) (l : List Nat) (ob : Option Nat) (w : World) : Prop := Pk g l true ob w ∧ Below w0.heap.size w0 w ∧ w0.heap.size ≤ g ∧ ∀ k, ob = some k → w0.heap.size ≤ k
theorem pkH_put {w0 : World} {g : Nat} {l : List Nat} {ob : Option Nat} {w : World} (h : PkH w0 g l ob w) (hl : l.length ≤ 500000) (x : Nat) (hx : x < 256) (n : Nat) (hn : n ≤ 60) :
    Calls Tryd.prog 20 #[.pointer (some ⟨g, 0, none⟩), .int .i64 (x : Nat), .int .i64 (n : Nat)] w fun e w' => e = .returned (.tuple #[]) ∧ ∃ ob', PkH w0 g (l ++ numB true (x : Nat) n) ob' w' := by
  obtain ⟨h1, h2, h3, h4⟩ := h
  refine (put_pk g l true ob hl (x : Nat) (by unfold In64; omega) n hn w h1).mono ?_
  rintro e w' ⟨rfl, hC, ob', hP, hN⟩
  refine ⟨rfl, ob', hP, h2.trans (hC.below h2.size fun k hk => ?_), h3, fun k hk => ?_⟩
  · rcases List.mem_cons.1 hk with rfl | hk
    · exact h3
    · exact h4 k (by simpa using hk)
  · rcases hN with rfl | ⟨q, rfl, hq⟩
    · exact h4 k hk
    · injection hk with hk
      subst hk
      exact Nat.le_trans h2.size hq
theorem pkH_new (w : World) : PkH w w.heap.size [] none (w.alloc (.cells #[.slice none 0 0, .bool true] 53)) :=
  ⟨⟨⟨.slice none 0 0, hp_new0 _ _, World.ownsRow_nil _ _ _ _, rfl⟩, by simp, by simp⟩, (Below.refl _ w).alloc (Nat.le_refl _) _, Nat.le_refl _, fun k hk => by cases hk⟩
/-- Is one of the first places none? -/
def anyK (many : Nat) (Kt : Nat → Nat) : Nat → Bool
  | 0 => false
  | t + 1 => anyK many Kt t || decide (many ≤ Kt t)
theorem anyK_true {many : Nat} {Kt : Nat → Nat} : ∀ {n}, anyK many Kt n = true → ∃ t, t < n ∧ many ≤ Kt t
  | 0, h => by cases h
  | n + 1, h => by
    rw [anyK, Bool.or_eq_true, decide_eq_true_eq] at h
    rcases h with h | h
    · obtain ⟨t, h1, h2⟩ := anyK_true h
      exact ⟨t, by omega, h2⟩
    · exact ⟨n, by omega, h⟩
theorem anyK_false {many : Nat} {Kt : Nat → Nat} : ∀ {n}, anyK many Kt n = false → ∀ t, t < n → Kt t < many
  | 0, h, t, ht => absurd ht (by omega)
  | n + 1, h, t, ht => by
    rw [anyK, Bool.or_eq_false_iff, decide_eq_false_iff_not] at h
    by_cases e : t = n
    · subst e
      omega
    · exact anyK_false h.1 t (by omega)
theorem own_leS {w : World} {B B' : Nat} {e : TypeId} {size n : Nat} {v : Value} {xs : List Value} (h : w.ownsRow B e size v n xs) (hb : B' ≤ B) : w.ownsRow B' e size v n xs :=
  ⟨h.1, h.2.imp id fun ⟨g, cap, cur, h1, h2, h3⟩ => ⟨g, cap, cur, h1, Nat.le_trans hb h2, h3⟩⟩
def lenV : Value → Nat
  | .slice _ n _ => n
  | _ => 0
end Go.Proofs.YtdooefnckdklmaaDoor
