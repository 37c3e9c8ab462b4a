/- Two pixels compared. engraverref8.List: the unlike pixels and each pixel's place; engraverref8.Colours. Colours of the program and of the reference, at every picture. depth.bytes, clears, Fits; engraverref8.Fits. depth.Fits and engraverref8.Fits. Copies: slices.Clone, raster.Copy, engraverref8.Copy. -/
import Derived.Test.YtdooefnckdklmaaDoorM1
import Derived.Laws.StructEq
import Derived.Deep.RegionHeld3
import Derived.Deep.AppendLies
namespace Go.Proofs.YtdooefnckdklmaaDoor
set_option maxRecDepth 100000
set_option linter.unusedVariables false
open Go.ChangeShapes Go.WideShapes Go.ChangeAt Go.RowKit

def vP (p : P4) : Value := .agg #[.int .u16 (p.1 : Nat), .int .u16 (p.2.1 : Nat), .int .u16 (p.2.2.1 : Nat), .int .u16 (p.2.2.2 : Nat)]
theorem run_isAgg38 (w : World) : (isAgg 42).run Tryd.prog w = .ok false w := by kernel_rfl
theorem run_sizeOf38 (w : World) : (sizeOf 42).run Tryd.prog w = .ok 1 w := by kernel_rfl
theorem range4 : List.range' 0 4 = [0, 1, 2, 3] := rfl
set_option maxRecDepth 100000 in
theorem run_eq41 (d : Nat) (a0 a1 a2 a3 b0 b1 b2 b3 : Int) (w : World) :
    (Op.equalIn (d + 2) 43 (.agg #[.int .u16 a0, .int .u16 a1, .int .u16 a2, .int .u16 a3]) (.agg #[.int .u16 b0, .int .u16 b1, .int .u16 b2, .int .u16 b3])).run Tryd.prog w
      = .ok (a0 == b0 && (a1 == b1 && (a2 == b2 && a3 == b3))) w := by
  have e : ∀ (x y : Int) W, (Op.equalIn (d + 1) 42 (.int .u16 x) (.int .u16 y)).run Tryd.prog W = .ok (x == y) W := fun x y W => run_equalIn_int W d 42 .u16 .u16 x y Tryd.underlying42
  rw [Op.equalIn]
  simp only [Sem.run_bind, run_underlying Tryd.underlying43, Result.andThen_ok, run_sizeOf38, part]
  simp [range4, Std.Legacy.Range.forIn_eq_forIn_range', Std.Legacy.Range.size, List.forIn_cons, e]
  by_cases h0 : a0 = b0 <;> by_cases h1 : a1 = b1 <;> by_cases h2 : a2 = b2 <;> by_cases h3 : a3 = b3 <;> simp [h0, h1, h2, h3]
set_option maxRecDepth 100000 in
theorem run_eqP (p q : P4) (w : World) : (Op.equalIn 10000 43 (.agg #[.int .u16 (p.1 : Nat), .int .u16 (p.2.1 : Nat), .int .u16 (p.2.2.1 : Nat), .int .u16 (p.2.2.2 : Nat)]) (.agg #[.int .u16 (q.1 : Nat), .int .u16 (q.2.1 : Nat), .int .u16 (q.2.2.1 : Nat), .int .u16 (q.2.2.2 : Nat)])).run Tryd.prog w
    = .ok (decide (p = q)) w := by
  have h := run_eq41 9998 p.1 p.2.1 p.2.2.1 p.2.2.2 q.1 q.2.1 q.2.2.1 q.2.2.2 w
  rw [show 10000 = 9998 + 2 from rfl, h]
  congr 1
  obtain ⟨a, b, c, d⟩ := p
  obtain ⟨a', b', c', d'⟩ := q
  rw [Bool.eq_iff_iff]
  simp only [Bool.and_eq_true, beq_iff_eq, decide_eq_true_eq, Prod.mk.injEq]
  omega

/-! ### The list of unlike pixels, and each pixel's place -/
def U (c : Nat → Nat) (i : Nat) : List P4 := uni (ll c i)
theorem U_succ (c : Nat → Nat) (i : Nat) : U c (i + 1) = if p4 c i ∈ U c i then U c i else U c i ++ [p4 c i] := by
  unfold U ll
  rw [List.range_succ, List.map_append]
  unfold uni
  rw [List.foldl_append]
  rfl
theorem U_le (c : Nat → Nat) (i : Nat) : (U c i).length ≤ i := by
  induction i with
  | zero => simp [U, ll, uni]
  | succ i ih =>
    rw [U_succ]
    split
    · omega
    · simp; omega
theorem U_mono1 (c : Nat → Nat) (i : Nat) : (U c i).length ≤ (U c (i + 1)).length := by rw [U_succ]; split <;> simp
theorem U_mono (c : Nat → Nat) {i k : Nat} (h : i ≤ k) : (U c i).length ≤ (U c k).length := by
  obtain ⟨d, rfl⟩ := Nat.le.dest h
  clear h
  induction d with
  | zero => simp
  | succ d ih => exact Nat.le_trans ih (U_mono1 c (i + d))
def pl (c : Nat → Nat) (i : Nat) : List Nat := (List.range i).map fun j => (U c j).idxOf (p4 c j)
theorem pl_succ (c : Nat → Nat) (i : Nat) : pl c (i + 1) = pl c i ++ [(U c i).idxOf (p4 c i)] := by
  unfold pl
  rw [List.range_succ, List.map_append]
  rfl
theorem pl_len (c : Nat → Nat) (i : Nat) : (pl c i).length = i := by simp [pl]
def cP (p : P4) : List Value := [.int .u16 (p.1 : Nat), .int .u16 (p.2.1 : Nat), .int .u16 (p.2.2.1 : Nat), .int .u16 (p.2.2.2 : Nat)]
def cellsP (l : List P4) : List Value := l.flatMap cP
theorem cellsP_len (l : List P4) : (cellsP l).length = l.length * 4 := by
  induction l with
  | nil => rfl
  | cons p l ih =>
    show (cP p ++ cellsP l).length = _
    rw [List.length_append, ih]
    simp [cP]
    omega
theorem cellsP_get (l : List P4) (k : Nat) (p : P4) (h : l[k]? = some p) (j : Nat) (hj : j < 4) : (cellsP l)[k * 4 + j]? = (cP p)[j]? := by
  induction l generalizing k with
  | nil => simp at h
  | cons q l ih =>
    show (cP q ++ cellsP l)[k * 4 + j]? = _
    cases k with
    | zero =>
      simp at h
      subst h
      rw [List.getElem?_append_left (by simp [cP]; omega)]
      simp
    | succ k =>
      rw [List.getElem?_append_right (by simp [cP]; omega)]
      have e : (k + 1) * 4 + j - (cP q).length = k * 4 + j := by simp [cP]; omega
      rw [e]
      exact ih k (by simpa using h)
theorem cellsP_snoc (l : List P4) (p : P4) : cellsP (l ++ [p]) = cellsP l ++ cP p := by simp [cellsP]
theorem cP_one (p : P4) : ∀ u ∈ cP p, u.oneCell' = true := by intro u hu; simp [cP] at hu; rcases hu with rfl | rfl | rfl | rfl <;> rfl
def cellsI (l : List Nat) : List Value := l.map fun n => .int .i64 (n : Nat)
theorem cellsI_snoc (l : List Nat) (n : Nat) : cellsI (l ++ [n]) = cellsI l ++ [.int .i64 (n : Nat)] := by simp [cellsI]
theorem idx_found {l : List P4} {p : P4} {k : Nat} (h : l[k]? = some p) (hn : ∀ j, j < k → l[j]? ≠ some p) : l.idxOf p = k ∧ p ∈ l := by
  induction l generalizing k with
  | nil => simp at h
  | cons q l ih =>
    cases k with
    | zero => simp at h; subst h; simp
    | succ k =>
      have h0 : q ≠ p := by have := hn 0 (by omega); simpa using this
      have h1 := ih (k := k) (by simpa using h) (fun j hj => by have := hn (j + 1) (by omega); simpa using this)
      refine ⟨?_, by simp [h1.2]⟩
      have e9 : (q == p) = false := beq_eq_false_iff_ne.2 h0
      rw [List.idxOf_cons, e9, h1.1]
      rfl
theorem idx_none {l : List P4} {p : P4} (hn : ∀ j, j < l.length → l[j]? ≠ some p) : l.idxOf p = l.length ∧ p ∉ l := by
  have h : p ∉ l := by
    intro h
    obtain ⟨j, hj, e⟩ := List.getElem_of_mem h
    exact hn j hj (by rw [List.getElem?_eq_getElem hj, e])
  exact ⟨List.idxOf_eq_length h, h⟩
end Go.Proofs.YtdooefnckdklmaaDoor

namespace Go.Proofs.YtdooefnckdklmaaDoor
set_option maxRecDepth 100000
set_option linter.unusedVariables false
open Go.ChangeShapes Go.WideShapes Go.ChangeAt Go.RowKit

theorem info41 : (Tryd.prog.info? 43).map (fun i => (i.zero, i.size, i.bytes)) = some (some (.agg #[.int .u16 0, .int .u16 0, .int .u16 0, .int .u16 0]), 4, 8) := by kernel_rfl
theorem info3 : (Tryd.prog.info? 3).map (fun i => (i.zero, i.size, i.bytes)) = some (some (.int .i64 0), 1, 8) := by kernel_rfl

def listPost (c : Nat → Nat) (N : Nat) (most : Int) (w : World) (e : Ending) (w' : World) : Prop :=
  (((U c N).length : Int) ≤ most ∧ ∃ v u, e = .returned (.tuple #[v, u, .bool true]) ∧ w'.ownsRow w.heap.size 43 4 v (U c N).length (cellsP (U c N)) ∧ w'.ownsRow w.heap.size 3 1 u N (cellsI (pl c N))) ∨
  (¬((U c N).length : Int) ≤ most ∧ e = .returned (.tuple #[.slice none 0 0, .slice none 0 0, .bool false]))

/-- The loop's state behind i pixels. -/
structure LS (c : Nat → Nat) (most : Int) (w : World) (a b : Int) (bk off n cap i : Nat) (v u : Value) (wr : World) : Prop where
  rv : wr.ownsRow (w.heap.size + 1) 43 4 v (U c i).length (cellsP (U c i))
  ru : wr.ownsRow (w.heap.size + 1) 3 1 u i (cellsI (pl c i))
  ne : v.ownBlock = none ∨ v.ownBlock ≠ u.ownBlock
  lim : 0 < i → ((U c i).length : Int) ≤ most
  below : Below w.heap.size w wr
  box : wr.heap[w.heap.size]? = some (.cells #[.int .i64 a, .int .i64 b, .slice (some ⟨bk, off, none⟩) n cap] 26 (0, 0))

theorem own_none {w w' : World} {base : Nat} {e : TypeId} {size n : Nat} {v : Value} {xs : List Value} (h : w.ownsRow base e size v n xs) (hb : Below w.heap.size w w') : w'.ownsRow base e size v n xs :=
  h.kept (grown_of_below hb none) (by cases v.ownBlock <;> simp)

theorem own_le' {w : World} {b b' : Nat} (h : b' ≤ b) {e : TypeId} {size n : Nat} {v : Value} {xs : List Value} (ho : w.ownsRow b e size v n xs) : w.ownsRow b' e size v n xs := by
  refine ⟨ho.1, ?_⟩
  rcases ho.2 with h1 | ⟨g, cap, cur, hv, hb, r⟩
  · exact .inl h1
  · exact .inr ⟨g, cap, cur, hv, Nat.le_trans h hb, r⟩
theorem own_ne {w : World} {base : Nat} {e : TypeId} {size n : Nat} {v u v' : Value} {xs : List Value} (hu : w.ownsRow base e size u n xs) (hne : v.ownBlock = none ∨ v.ownBlock ≠ u.ownBlock)
    (hat : v'.ownBlock = v.ownBlock ∨ v'.ownBlock = some w.heap.size) : v'.ownBlock = none ∨ v'.ownBlock ≠ u.ownBlock := by
  rcases hat with h | h
  · rw [h]; exact hne
  · refine .inr ?_
    rw [h]
    intro h2
    have := (hu.lt _ h2.symm).2
    omega
theorem LS.push {c : Nat → Nat} {most : Int} {w : World} {a b : Int} {bk off n cap i : Nat} {v u u' : Value} {W0 W1 : World} {k : Nat}
    (rv : W0.ownsRow (w.heap.size + 1) 43 4 v (U c (i + 1)).length (cellsP (U c (i + 1)))) (ru : W0.ownsRow (w.heap.size + 1) 3 1 u i (cellsI (pl c i)))
    (hne : v.ownBlock = none ∨ v.ownBlock ≠ u.ownBlock) (hlim : ((U c (i + 1)).length : Int) ≤ most) (hbel : Below w.heap.size w W0)
    (hbox : W0.heap[w.heap.size]? = some (.cells #[.int .i64 a, .int .i64 b, .slice (some ⟨bk, off, none⟩) n cap] 26 (0, 0)))
    (hown' : W1.ownsRow (w.heap.size + 1) 3 1 u' (i + 1) (cellsI (pl c i) ++ [.int .i64 (k : Nat)])) (hk : (U c i).idxOf (p4 c i) = k) (hgrow : W0.grownBy W1 u.ownBlock)
    (hat : u'.ownBlock = u.ownBlock ∨ u'.ownBlock = some W0.heap.size) : LS c most w a b bk off n cap (i + 1) v u' W1 := by
  have hub : ∀ g, u.ownBlock = some g → w.heap.size + 1 ≤ g := fun g hg => (ru.lt g hg).1
  refine ⟨rv.kept hgrow hne, ?_, ?_, fun _ => hlim, hbel.grown hgrow hbel.size (fun g hg => by have := hub g hg; omega), ?_⟩
  · rw [pl_succ, cellsI_snoc, hk]; exact hown'
  · rcases hne with h | h
    · exact .inl h
    · by_cases h0 : v.ownBlock = none
      · exact .inl h0
      · refine .inr ?_
        rcases hat with h2 | h2
        · rw [h2]; exact h
        · rw [h2]
          intro h3
          have := (rv.lt _ h3).2
          omega
  · have hlt := (Array.getElem?_eq_some_iff.1 hbox).1
    exact (hgrow.block _ hlt (fun e => by have := hub _ e.symm; omega)).trans hbox
theorem one_new {w : World} {x : Value} {t : TypeId} (n : Nat) {j : Nat} {u : Value} (h : [x][j]? = some u) : ((w.drewN n).alloc (.cells #[x] t)).cell? ((⟨w.heap.size, 0, none⟩ : Addr).add j) = some u := by
  cases j with
  | zero => simp at h; subst h; exact hp_cell (j := 0) (hp_new0 (w.drewN n) (.cells #[x] t)) rfl
  | succ j => simp at h
theorem four_newP {w : World} {p : P4} (n : Nat) {j : Nat} {u : Value} (h : (cP p)[j]? = some u) : ((w.drewN n).alloc (.cells #[.int .u16 (p.1 : Nat), .int .u16 (p.2.1 : Nat), .int .u16 (p.2.2.1 : Nat), .int .u16 (p.2.2.2 : Nat)] 43)).cell? ((⟨w.heap.size, 0, none⟩ : Addr).add j) = some u := by
  rw [Addr.add_lit, Nat.zero_add]
  have h2 : (cP p).toArray[j]? = some u := by rw [List.getElem?_toArray]; exact h
  exact hp_cell (hp_new0 (w.drewN n) (.cells (cP p).toArray 43)) h2
theorem ne_snoc {L : List P4} {p q : P4} {k : Nat} (h : ∀ j, j < k → L[j]? ≠ some p) (hq : L[k]? = some q) (hne : ¬q = p) : ∀ j, j < k + 1 → L[j]? ≠ some p := by
  intro j hj
  by_cases e : j = k
  · subst e
    rw [hq]
    intro h2
    injection h2 with h2
    exact hne h2
  · exact h j (by omega)
set_option maxRecDepth 100000 in
set_option maxHeartbeats 4000000 in
theorem list_ref (a b : Int) (bk off cap : Nat) (c : Nat → Nat) (hc : ∀ i, c i < 65536) (N : Nat) (most : Int) (ha : In64 a) (hb : In64 b) (hm : mayB a b (4 * N) = true) (hN1 : 1 ≤ N) (hN2 : N ≤ 16384) (hcap : 4 * N ≤ cap) (hmax : cap ≤ maxLen)
    (w : World) (hbk : bk < w.heap.size) (hcells : ∀ j, j < 4 * N → w.cell? ⟨bk, off + j, none⟩ = some (.int .u16 (c j : Nat))) :
    Calls Tryd.prog 48 #[.agg #[.int .i64 a, .int .i64 b, .slice (some ⟨bk, off, none⟩) (4 * N) cap], .int .i64 most] w fun e w' => listPost c N most w e w' ∧ Below w.heap.size w w' := by
  obtain ⟨i41, hi41, hz410, hz411, hz412⟩ := info_parts info41
  obtain ⟨i3, hi3, hz30, hz31, hz32⟩ := info_parts info3
  obtain ⟨hz, hab⟩ := may_ok hm
  obtain ⟨q1, q2, q3, q4, q5⟩ := size_ok hz
  have hab2 : a * b = (N : Int) := by rw [Int.mul_assoc] at hab; omega
  have hw : wrap64 (a * b) = (N : Int) := (IntWalk.wrap64_in _ (by omega)).trans hab2
  unfold maxLen at hmax
  clear hz hab hab2
  go_enter Tryd.func48, Tryd.ntmps48
  go_wp2_with fail
  go_loopw [7, 8, 9] (fun v u x wr => ∃ i : Nat, i ≤ N ∧ x = .int .i64 i ∧ LS c most w a b bk off (4 * N) cap i v u wr) (fun _ _ x _ => N - (intOf x).toNat)
  case atStart => exact ⟨0, by omega, rfl, ⟨World.ownsRow_nil _ _ _ _, World.ownsRow_nil _ _ _ _, .inl rfl, fun h => absurd h (by omega), (Below.refl _ _).alloc (Nat.le_refl _) _, hp_new0 _ _⟩⟩
  case round =>
    obtain ⟨i, hi, rfl, hS⟩ := hrel
    have k0 := hp_cell (j := 0) hS.box rfl
    have k1 := hp_cell (j := 1) hS.box rfl
    have k2 := hp_cell (j := 2) hS.box rfl
    by_cases hlt : i < N
    · have hSz : w.heap.size < wr.heap.size := (Array.getElem?_eq_some_iff.1 hS.box).1
      have hbkr : bk < wr.heap.size := Nat.lt_of_lt_of_le hbk hS.below.size
      have hcs : ∀ j, j < 4 → wr.cell? ⟨bk, off + 4 * i + j, none⟩ = (cP (p4 c i))[j]? := fun j hj => by
        have h1 := (hS.below.cell (p := ⟨bk, off + (4 * i + j), none⟩) hbk).trans (hcells (4 * i + j) (by omega))
        rw [← Nat.add_assoc] at h1
        rw [h1]
        obtain rfl | rfl | rfl | rfl : j = 0 ∨ j = 1 ∨ j = 2 ∨ j = 3 := by omega
        all_goals rfl
      have hbel : Below wr.heap.size wr (wr.alloc (.cells #[.int .u16 0, .int .u16 0, .int .u16 0, .int .u16 0] 43)).drew := ((Below.refl _ _).alloc (Nat.le_refl _) _).drew
      have hZ : (wr.alloc (.cells #[.int .u16 0, .int .u16 0, .int .u16 0, .int .u16 0] 43)).drew.heap[wr.heap.size]? = some (.cells #[.int .u16 0, .int .u16 0, .int .u16 0, .int .u16 0] 43 (0, 0)) := hp_new0 wr _
      have kn2 := hp_cell (j := 2) (hp_alloc (.cells #[.int .u16 0, .int .u16 0, .int .u16 0, .int .u16 0] 43) hS.box) rfl
      have hrun := run_copy_row (P := Tryd.prog) (wr.alloc (.cells #[.int .u16 0, .int .u16 0, .int .u16 0, .int .u16 0] 43)).drew 24 24 3 42 wr.heap.size 0 4 4 ⟨bk, off + 4 * i, none⟩ (4 * N - 4 * i) (cap - 4 * i) _ _ (cP (p4 c i)) Tryd.underlying24 size38 hZ
        (show 4 = Nat.min (4 * N - 4 * i) 4 from (Nat.min_eq_right (by omega)).symm)
        (by
          intro j v hj
          have hj4 : j < 4 := by have := (List.getElem?_eq_some_iff.1 hj).1; simpa [cP] using this
          rw [Addr.add_lit]
          exact (hbel.cell (p := ⟨bk, off + 4 * i + j, none⟩) hbkr).trans ((hcs j hj4).trans hj)) (by simp [cP]) (cP_one _)
      change _ = Result.ok _ ((wr.alloc (.cells #[.int .u16 0, .int .u16 0, .int .u16 0, .int .u16 0] 43)).drew.setRow wr.heap.size (cP (p4 c i)).toArray) at hrun
      have hck : ¬cap = 4 * i := by omega
      have hlI : (4 : Int) * (i : Int) + 4 ≤ 4 * (N : Int) := by omega
      have hb2 : Below wr.heap.size wr ((wr.alloc (.cells #[.int .u16 0, .int .u16 0, .int .u16 0, .int .u16 0] 43)).drew.setRow wr.heap.size (cP (p4 c i)).toArray) := below_setRow hbel (Nat.le_refl _) _
      have hh2 : ((wr.alloc (.cells #[.int .u16 0, .int .u16 0, .int .u16 0, .int .u16 0] 43)).drew.setRow wr.heap.size (cP (p4 c i)).toArray).heap[wr.heap.size]? = some (.cells (cP (p4 c i)).toArray 43 (0, 0)) := setRow_heap _ _ _ _ _ _ hZ
      have HB2 := Lib.hid hb2
      have HH2 := Lib.hid hh2
      have HS := Lib.hid hS
      clear hb2 hh2 hS hbel hZ hcs
      go_wp2_with fail
      go_region
      generalize (wr.alloc (.cells #[.int .u16 0, .int .u16 0, .int .u16 0, .int .u16 0] 43)).drew.setRow wr.heap.size (cP (p4 c i)).toArray = W2 at *
      obtain ⟨rv, ru, hne, hlim, hbel, hbox⟩ := HS.out
      have rv2 := own_none rv HB2.out
      have ru2 := own_none ru HB2.out
      have hbel2 := hbel.trans (HB2.out.mono hbel.size)
      have hbox2 := hp_below hbox HB2.out hSz
      have hS2 : wr.heap.size < W2.heap.size := (Array.getElem?_eq_some_iff.1 HH2.out).1
      have hUs := U_succ c i
      have hps := pl_succ c i
      have hUm := U_mono c (show i + 1 ≤ N by omega)
      have hLi := U_le c i
      have hp16 := p4 c i
      clear rv ru hbel hbox HS k0 k1 k2 kn2 hrun HB2
      generalize hL : U c i = L at *
      generalize hp : p4 c i = p at *
      have HLp := Lib.hid hL
      have HPp := Lib.hid hp
      clear hp16
      obtain ⟨_, A, cv, rfl, hcv1, hcv2, hcv3⟩ := Sl.of_own rv2
      have HUs := Lib.hid hUs
      have Hps := Lib.hid hps
      clear hUs hps hcv3 hL hp
      go_wp2_with fail
      go_loopw [11] (fun x wr2 => ∃ k : Nat, k ≤ L.length ∧ x = .int .i64 k ∧ (∀ j, j < k → L[j]? ≠ some p) ∧ Below W2.heap.size W2 wr2) (fun x _ => L.length - (intOf x).toNat)
      case atStart => exact ⟨0, by omega, rfl, fun j hj => absurd hj (by omega), Below.refl _ _⟩
      case round =>
        rename World => wr2
        obtain ⟨k, hk, rfl, hnot, hB3⟩ := hrel
        have hpb := hp_below HH2.out hB3 hS2
        have p0 : wr2.cell? ⟨wr.heap.size, 0, none⟩ = some (.int .u16 (p.1 : Nat)) := hp_cell (j := 0) hpb rfl
        have p1 : wr2.cell? ⟨wr.heap.size, 1, none⟩ = some (.int .u16 (p.2.1 : Nat)) := hp_cell (j := 1) hpb rfl
        have p2 : wr2.cell? ⟨wr.heap.size, 2, none⟩ = some (.int .u16 (p.2.2.1 : Nat)) := hp_cell (j := 2) hpb rfl
        have p3 : wr2.cell? ⟨wr.heap.size, 3, none⟩ = some (.int .u16 (p.2.2.2 : Nat)) := hp_cell (j := 3) hpb rfl
        have HN := Lib.hid hnot
        clear hnot
        by_cases hkl : k < L.length
        · obtain ⟨q, hq⟩ : ∃ q, L[k]? = some q := ⟨L[k], List.getElem?_eq_getElem hkl⟩
          obtain ⟨gb, go, he, hgl, hgc⟩ := ((Sl.of_own rv2).below hB3).cell (by omega)
          subst he
          have hqc : ∀ j, j < 4 → wr2.cell? ⟨gb, go + k * 4 + j, none⟩ = (cP q)[j]? := fun j hj => by
            rw [Nat.add_assoc, hgc (k * 4 + j) (by omega), cellsP_get L k q hq j hj]
          have c0 : wr2.cell? ⟨gb, go + k * 4, none⟩ = some (.int .u16 (q.1 : Nat)) := hqc 0 (by omega)
          have c1 : wr2.cell? ⟨gb, go + k * 4 + 1, none⟩ = some (.int .u16 (q.2.1 : Nat)) := hqc 1 (by omega)
          have c2 : wr2.cell? ⟨gb, go + k * 4 + 2, none⟩ = some (.int .u16 (q.2.2.1 : Nat)) := hqc 2 (by omega)
          have c3 : wr2.cell? ⟨gb, go + k * 4 + 3, none⟩ = some (.int .u16 (q.2.2.2 : Nat)) := hqc 3 (by omega)
          have HQ := Lib.hid hq
          clear hq hqc hgc
          by_cases hqp : q = p
          · have hE := fun W => run_eqP q p W
            rw [show decide (q = p) = true from by simp [hqp]] at hE
            have hd : decide (k < L.length) = true := by simpa using hkl
            have hq2 := HQ.out
            rw [hqp] at hq2
            have HQ2 := Lib.hid hq2
            clear hqp hq2
            go_wp2_with fail
            go_quiet (fail)
            have hB4 : ∀ n, Below W2.heap.size W2 (wr2.drewN n) := fun n => below_drewN hB3 n
            have hru3 : ∀ n, (wr2.drewN n).ownsRow (w.heap.size + 1) 3 1 _ i (cellsI (pl c i)) := fun n => own_none ru2 (hB4 n)
            have hkk : ((k : Int) == (L.length : Int)) = false := by rw [beq_eq_false_iff_ne]; omega
            go_wp2_with (at_builtin; refine wpList_append_own_at _ rfl _ _ 47 rfl (w.heap.size + 1) 3 i3 _ 1 8 Tryd.underlying47 hi3 hz30 hz31 hz32 rfl (by decide) _ _ _ rfl ((hru3 _).alloc _) ⟨wr2.heap.size, 0, none⟩ 1 1 [.int .i64 (k : Nat)] rfl rfl ?c1 ?c2 ?c3 ?c4 ?c5 ?_)
            case c1 => exact fun j u h => one_new _ h
            case c2 => intro u hu; simp at hu; subst hu; rfl
            case c3 => unfold maxLen; omega
            case c4 => omega
            case c5 => have h1 := hbel2.size; have h2 := (hB4 nq).size; simp at h2 ⊢; omega
            intro u2 w1 hown' hgrow _ hat
            have hi0 : 0 < i := by omega
            have hid := idx_found HQ2.out HN.out
            have hUi : U c (i + 1) = L := by rw [HUs.out, if_pos hid.2]
            have hb4 := hB4 nq
            have hal := hb4.alloc hb4.size (.cells #[.int .i64 (k : Nat)] 3)
            have HR := Lib.hid (LS.push (c := c) (most := most) (i := i) (by rw [hUi]; exact own_none rv2 hal) (own_none ru2 hal) hne (by rw [hUi]; exact hlim hi0) (hbel2.trans (hal.mono hbel2.size)) (hp_below hbox2 hal (by omega)) hown' (by rw [HLp.out, HPp.out]; exact hid.1) hgrow (by rcases hat with h | h; exact .inl h; exact .inr (by rw [h]; simp)))
            clear hown' hgrow hat hal hb4 hid hUi
            go_wp2_with fail
            go_roundw
            case rel => exact ⟨i + 1, by omega, by go_num, HR.out⟩
            case measure => simp [intOf]; omega
          · have hE := fun W => run_eqP q p W
            rw [show decide (q = p) = false from by simp [hqp]] at hE
            have hd : decide (k < L.length) = true := by simpa using hkl
            have HQP := Lib.hid hqp
            clear hqp
            go_wp2_with fail
            go_quiet (fail)
            go_wp2_with fail
            go_roundw
            case rel => exact ⟨k + 1, by omega, by go_num, ne_snoc HN.out HQ.out HQP.out, below_drewN hB3 _⟩
            case measure => simp [intOf]; omega
        · obtain rfl : k = L.length := by omega
          have hid := idx_none HN.out
          have hUi : U c (i + 1) = L ++ [p] := by rw [HUs.out, if_neg hid.2]
          have hUl : (U c (i + 1)).length = L.length + 1 := by rw [hUi]; simp
          have HID := Lib.hid hid
          have HUI := Lib.hid hUi
          have HUL := Lib.hid hUl
          have hB4 : ∀ n, Below W2.heap.size W2 (wr2.drewN n) := fun n => below_drewN hB3 n
          have hd : decide (L.length < L.length) = false := by simp
          rw [hUl] at hUm
          clear hid hUi hUl
          by_cases hge : most ≤ (L.length : Int)
          · have HF := Lib.hid (show ¬((U c N).length : Int) ≤ most by omega)
            have HB := Lib.hid (fun n => hbel2.trans ((hB4 n).mono hbel2.size))
            go_wp2_with fail
            go_quiet (fail)
            go_wp2_with fail
            go_ret3
            exact ⟨.inr ⟨by have := HF.out; omega, rfl⟩, HB.out _⟩
          · have hrv3 : ∀ n, (wr2.drewN n).ownsRow (w.heap.size + 1) 43 4 _ L.length (cellsP L) := fun n => own_none rv2 (hB4 n)
            go_wp2_with fail
            go_quiet (fail)
            go_wp2_with (at_builtin; refine wpList_append_own_at _ rfl _ _ 65 rfl (w.heap.size + 1) 43 i41 _ 4 8 Tryd.underlying65 hi41 hz410 hz411 hz412 rfl (by decide) _ _ _ rfl ((hrv3 _).alloc _) ⟨wr2.heap.size, 0, none⟩ 1 1 (cP p) rfl rfl ?c1 ?c2 ?c3 ?c4 ?c5 ?_)
            case c1 => exact fun j u h => four_newP _ h
            case c2 => exact cP_one p
            case c3 => unfold maxLen; omega
            case c4 => omega
            case c5 => have h1 := hbel2.size; have h2 := (hB4 nq).size; simp at h2 ⊢; omega
            intro v2 w1 hown' hgrow _ hat
            have hb4 := hB4 nq
            have hal := hb4.alloc hb4.size (.cells #[.int .u16 (p.1 : Nat), .int .u16 (p.2.1 : Nat), .int .u16 (p.2.2.1 : Nat), .int .u16 (p.2.2.2 : Nat)] 43)
            have rv0 := own_none rv2 hal
            have ru0 := own_none ru2 hal
            have rva : ∀ g, Value.ownBlock (.slice A L.length cv) = some g → w.heap.size + 1 ≤ g := fun g hg => (rv0.lt g hg).1
            have ru1 := ru0.kept hgrow (by
              rcases hne with h | h
              · rw [h]; cases Value.ownBlock u8 <;> simp
              · exact .inr (Ne.symm h))
            have hne1 := own_ne ru0 hne (by rcases hat with h | h; exact .inl h; exact .inr (by rw [h]; simp))
            have hbel1 := (hbel2.trans (hal.mono hbel2.size)).grown hgrow (Nat.le_trans hbel2.size hal.size) (fun g hg => by have := rva g hg; omega)
            have hbox1 := (hgrow.block _ (Nat.lt_of_lt_of_le (by omega) hal.size) (fun e => by have := rva _ e.symm; omega)).trans (hp_below hbox2 hal (by omega))
            have hs1 : wr2.heap.size + 1 ≤ w1.heap.size := by have := hgrow.size; simp at this; exact this
            have hs2 : w.heap.size + 1 ≤ w1.heap.size := by have h1 := hbel2.size; have h2 := hb4.size; simp at h2; omega
            clear hgrow hat hal hb4 rv0 ru0 rva hrv3
            go_wp2_with (at_builtin; refine wpList_append_own_at _ rfl _ _ 47 rfl (w.heap.size + 1) 3 i3 _ 1 8 Tryd.underlying47 hi3 hz30 hz31 hz32 rfl (by decide) _ _ _ rfl (ru1.alloc _) ⟨w1.heap.size, 0, none⟩ 1 1 [.int .i64 (L.length : Nat)] rfl rfl ?c1 ?c2 ?c3 ?c4 ?c5 ?_)
            case c1 => exact fun j u h => one_new (w := w1) 0 h
            case c2 => intro u hu; simp at hu; subst hu; rfl
            case c3 => unfold maxLen; omega
            case c4 => omega
            case c5 => simp; omega
            intro u2 w3 hown3 hgrow3 _ hat3
            have hal1 := (Below.refl w1.heap.size w1).alloc (Nat.le_refl _) (.cells #[.int .i64 (L.length : Nat)] 3)
            have HR := Lib.hid (LS.push (c := c) (most := most) (i := i) (by rw [HUL.out, HUI.out, cellsP_snoc]; exact own_none hown' hal1) (own_none ru1 hal1) hne1 (by rw [HUL.out]; omega) (hbel1.trans (hal1.mono hbel1.size)) (hp_below hbox1 hal1 (by omega)) hown3 (by rw [HLp.out, HPp.out]; exact HID.out.1) hgrow3 (by rcases hat3 with h | h; exact .inl h; exact .inr (by rw [h]; simp)))
            clear hown' hown3 hgrow3 hat3 hal1 ru1 hne1 hbel1 hbox1
            go_wp2_with fail
            go_roundw
            case rel => exact ⟨i + 1, by omega, by go_num, HR.out⟩
            case measure => simp [intOf]; omega
    · obtain rfl : i = N := by omega
      have hlm := hS.lim (by omega)
      have hbe := hS.below
      have ⟨rv, ru, _, _, _, _⟩ := hS
      have HR := Lib.hid (show listPost c i most w (.returned (.tuple #[u7, u8, .bool true])) wr from .inl ⟨hlm, u7, u8, rfl, own_le' (by omega) rv, own_le' (by omega) ru⟩)
      clear hS rv ru
      go_wp2_with fail
      go_ret3
      exact ⟨HR.out, hbe⟩
end Go.Proofs.YtdooefnckdklmaaDoor

namespace Go.Proofs.YtdooefnckdklmaaDoor
set_option maxRecDepth 100000
set_option linter.unusedVariables false
open Go.ChangeShapes Go.WideShapes Go.ChangeAt Go.RowKit

theorem colN_U {c : Nat → Nat} (hc : ∀ i, c i < 65536) (N : Nat) (most : Int) : colN c N most = if most < ((U c N).length : Int) then 0 else ((U c N).length : Int) := by
  unfold colN; rw [cnt_uni hc]; rfl
theorem colB_U {c : Nat → Nat} (hc : ∀ i, c i < 65536) (N : Nat) (most : Int) : colB c N most = decide (((U c N).length : Int) ≤ most) := by
  unfold colB; rw [cnt_uni hc]; rfl

/-- Both at once, at whatever picture. -/
def colV (a b : Int) (n : Nat) (c : Nat → Nat) (most : Int) : Value := if mayB a b n = true then .tuple #[.int .i64 (colN c (n / 4) most), .bool (colB c (n / 4) most)] else .tuple #[.int .i64 0, .bool false]
theorem may_four {a b : Int} {n : Nat} (h : mayB a b n = true) : ∃ N, n = 4 * N ∧ 1 ≤ N ∧ N ≤ 16384 ∧ a * b = (N : Int) := by
  obtain ⟨hz, hn⟩ := may_ok h
  obtain ⟨q1, q2, q3, q4, q5⟩ := size_ok hz
  have h1 : 0 < a * b := Int.mul_pos (by omega) (by omega)
  rw [Int.mul_assoc] at hn
  exact ⟨(a * b).toNat, by omega, by omega, by omega, by omega⟩
theorem colV_form (a b : Int) (n : Nat) (c : Nat → Nat) (most : Int) : ∃ x y, colV a b n c most = .tuple #[.int .i64 x, .bool y] := by
  unfold colV; split <;> exact ⟨_, _, rfl⟩
end Go.Proofs.YtdooefnckdklmaaDoor

namespace Go.Proofs.YtdooefnckdklmaaDoor
set_option maxRecDepth 100000
set_option linter.unusedVariables false
open Go.ChangeShapes Go.WideShapes Go.ChangeAt Go.RowKit

def bytesB (n : Nat) (c : Nat → Nat) : Bool := (List.range n).all fun j => c j % 257 == 0
theorem bytes_t {n : Nat} {c : Nat → Nat} (h : ∀ j, j < n → c j % 257 = 0) : bytesB n c = true := by simp [bytesB]; exact h
theorem bytes_iff {n : Nat} {c : Nat → Nat} : bytesB n c = true ↔ ∀ j, j < n → c j % 257 = 0 := by simp [bytesB]
theorem bytes_f {n k : Nat} {c : Nat → Nat} (hk : k < n) (h : ¬c k % 257 = 0) : bytesB n c = false := by
  rw [← Bool.not_eq_true, bytes_iff]
  intro h2
  exact h (h2 k hk)
def okB (c : Nat → Nat) (i : Nat) : Bool := c (4 * i + 3) == 65535 || (c (4 * i) == 0 && (c (4 * i + 1) == 0 && (c (4 * i + 2) == 0 && c (4 * i + 3) == 0)))
def okPix (c : Nat → Nat) (i : Nat) : Prop := okB c i = true
theorem okPix_iff {c : Nat → Nat} {i : Nat} : okPix c i ↔ c (4 * i + 3) = 65535 ∨ (c (4 * i) = 0 ∧ c (4 * i + 1) = 0 ∧ c (4 * i + 2) = 0 ∧ c (4 * i + 3) = 0) := by simp [okPix, okB]
def clearB (N : Nat) (c : Nat → Nat) : Bool := (List.range N).all fun i => okB c i
theorem clear_iff {N : Nat} {c : Nat → Nat} : clearB N c = true ↔ ∀ i, i < N → okPix c i := by simp [clearB, okPix]
theorem clear_f {N k : Nat} {c : Nat → Nat} (hk : k < N) (h : ¬okPix c k) : clearB N c = false := by
  rw [← Bool.not_eq_true, clear_iff]
  intro h2
  exact h (h2 k hk)
theorem all_snoc {p : Nat → Prop} {k : Nat} (h : ∀ j, j < k → p j) (hk : p k) : ∀ j, j < k + 1 → p j := by
  intro j hj
  by_cases e : j = k
  · subst e; exact hk
  · exact h j (by omega)

theorem run_eq_zero (p : P4) (w : World) : (Op.equalIn 10000 43 (.agg #[.int .u16 (p.1 : Nat), .int .u16 (p.2.1 : Nat), .int .u16 (p.2.2.1 : Nat), .int .u16 (p.2.2.2 : Nat)]) (.agg #[.int .u16 0, .int .u16 0, .int .u16 0, .int .u16 0])).run Tryd.prog w
    = .ok (decide (p = (0, 0, 0, 0))) w := run_eqP p (0, 0, 0, 0) w
theorem row_lt {x y a b N : Nat} (hN : (a : Int) * (b : Int) = (N : Int)) (hx : x < a) (hy : y < b) : y * a + x < N := by
  have h1 : (y + 1) * a ≤ b * a := Nat.mul_le_mul_right _ (by omega)
  have h2 : a * b = N := by rw [← Int.natCast_inj, Int.natCast_mul]; exact hN
  rw [Nat.add_mul, Nat.one_mul] at h1
  rw [Nat.mul_comm b a, h2] at h1
  omega
theorem inB_xy {a b : Nat} {n x y : Nat} (hm : mayB a b n = true) (hx : x < a) (hy : y < b) : inB a b n x y = true := by
  simp [inB, hm, hx, hy]

end Go.Proofs.YtdooefnckdklmaaDoor

namespace Go.Proofs.YtdooefnckdklmaaDoor
set_option maxRecDepth 100000
set_option linter.unusedVariables false
open Go.ChangeShapes Go.WideShapes Go.ChangeAt Go.RowKit

/-- Whether a format can hold a picture. -/
def fitsB (a b : Int) (n : Nat) (c : Nat → Nat) (f : Int) : Bool :=
  mayB a b n && (decide (f = 1) || (decide (f = 3) && bytesB n c) || (decide (f = 2) && (colB c (n / 4) 256 && (bytesB n c && clearB (n / 4) c))))
theorem fits_may {a b : Int} {n : Nat} {c : Nat → Nat} {f : Int} (h : fitsB a b n c f = true) : mayB a b n = true := by
  unfold fitsB at h
  cases hm : mayB a b n
  · rw [hm] at h; simp at h
  · rfl
theorem may_nat {a b : Int} {n : Nat} (h : mayB a b n = true) : ∃ a' b' N : Nat, a = (a' : Int) ∧ b = (b' : Int) ∧ n = 4 * N ∧ 1 ≤ N ∧ N ≤ 16384 ∧ (a' : Int) * (b' : Int) = (N : Int) := by
  obtain ⟨N, h1, h2, h3, h4⟩ := may_four h
  obtain ⟨s1, s2, s3, s4, s5⟩ := size_ok (may_ok h).1
  obtain ⟨a', rfl⟩ := Int.eq_ofNat_of_zero_le (show 0 ≤ a by omega)
  obtain ⟨b', rfl⟩ := Int.eq_ofNat_of_zero_le (show 0 ≤ b by omega)
  exact ⟨a', b', N, rfl, rfl, h1, h2, h3, h4⟩

theorem fits_else {a b : Int} {n : Nat} {c : Nat → Nat} {f : Int} (h : ¬f = 1 ∧ ¬f = 2 ∧ ¬f = 3) : fitsB a b n c f = false := by
  obtain ⟨h1, h2, h3⟩ := h
  simp [fitsB, h1, h2, h3]
theorem colB_iff {c : Nat → Nat} (hc : ∀ i, c i < 65536) {N : Nat} : colB c N 256 = decide (((U c N).length : Int) ≤ 256) := colB_U hc N 256
set_option maxRecDepth 100000 in
set_option maxHeartbeats 4000000 in
theorem fits_ref (a b : Int) (A : Option Addr) (n cap : Nat) (c : Nat → Nat) (f : Int) (hc : ∀ i, c i < 65536) (ha : In64 a) (hb : In64 b) (hf : In64 f) (hn : n ≤ cap) (hmax : cap ≤ maxLen) (w : World) (hP : Pix w A n c) :
    Calls Tryd.prog 35 #[.agg #[.int .i64 a, .int .i64 b, .slice A n cap], .int .i64 f] w fun e w' => e = .returned (.bool (fitsB a b n c f)) ∧ Below w.heap.size w w' := by
  have hbx0 := hp_new0 w (.cells #[.int .i64 a, .int .i64 b, .slice A n cap] 26)
  have hB0 : Below w.heap.size w (w.alloc (.cells #[.int .i64 a, .int .i64 b, .slice A n cap] 26)) := (Below.refl _ _).alloc (Nat.le_refl _) _
  have hS0 : (w.alloc (.cells #[.int .i64 a, .int .i64 b, .slice A n cap] 26)).heap.size = w.heap.size + 1 := World.size_alloc _ _
  cases hm : mayB a b n with
  | false =>
    have HF := Lib.hid (show fitsB a b n c f = false by simp [fitsB, hm])
    have HM := Lib.hid hm
    clear hm
    go_enter Tryd.func35, Tryd.ntmps35
    go_wp2_with fail
    refine (may_ref a b A n cap ha hb hn hmax _).mono ?_
    rintro e w2 ⟨rfl, hB⟩
    rw [HM.out]
    have HB := Lib.hid (hB0.trans (hB.mono hB0.size))
    clear hB hB0 hbx0
    go_wp2
    go_ret
    exact ⟨ret_b HF.out.symm, HB.out⟩
  | true =>
    have hfc : f = 1 ∨ f = 3 ∨ f = 2 ∨ f < 1 ∨ 3 < f := by omega
    obtain ⟨N, hN, hN1, hN2, hab⟩ := may_four hm
    have HM := Lib.hid hm
    have HN := Lib.hid hN
    have HC := Lib.hid hc
    have hmx := hmax
    unfold maxLen at hmx
    have hn65 : n ≤ 65536 := by omega
    clear hm hc hN hab
    go_enter Tryd.func35, Tryd.ntmps35
    go_wp2_with fail
    refine (may_ref a b A n cap ha hb hn hmax _).mono ?_
    rintro e w2 ⟨rfl, hB⟩
    rw [HM.out]
    have hbx := hp_below hbx0 hB (by omega)
    have hB2 := hB0.trans (hB.mono hB0.size)
    have hPw := hP.below hB2
    have hs2 : w.heap.size < w2.heap.size := (Array.getElem?_eq_some_iff.1 hbx).1
    clear hB hbx0 hS0 hB0 hP
    rcases hfc with rfl | rfl | rfl | hlo | hhi
    · have HF := Lib.hid (show fitsB a b n c 1 = true by simp [fitsB, HM.out])
      have HB2 := Lib.hid hB2
      clear hB2
      go_wp2_with fail
      go_loopw [5] (fun v wr => v = .int .i64 0 ∧ wr = w2) (fun _ _ => 0)
      case atStart => exact ⟨rfl, rfl⟩
      case round =>
        obtain ⟨rfl, rfl⟩ := hrel
        have k2 := hp_cell (j := 2) hbx rfl
        by_cases h0 : 0 < n
        · have t0 : decide (0 < n) = true := by simpa using h0
          have t1 : decide ((0 : Int) < (n : Int)) = true := by simp; omega
          go_wp2_with fail
          go_ret
          exact ⟨ret_b HF.out.symm, HB2.out⟩
        · exfalso; have := HN.out; omega
    · have HFt := Lib.hid (show fitsB a b n c 3 = bytesB n c by simp [fitsB, HM.out])
      go_wp2_with fail
      go_loopw [5] (fun v wr => ∃ k : Nat, k ≤ n ∧ v = .int .i64 k ∧ (∀ j, j < k → c j % 257 = 0) ∧ wr = w2) (fun v _ => n - (intOf v).toNat)
      case atStart => exact ⟨0, by omega, rfl, fun j hj => absurd hj (by omega), rfl⟩
      case round =>
        obtain ⟨k, hk, rfl, hag, rfl⟩ := hrel
        have HAG := Lib.hid hag
        clear hag
        have k2 := hp_cell (j := 2) hbx rfl
        by_cases hlt : k < n
        · obtain ⟨bk, off, rfl, hbl, hcl⟩ := hPw (by omega)
          have c0 := hcl k hlt
          have hck := HC.out k
          clear hcl
          have tl : decide (k < n) = true := by simpa using hlt
          by_cases he : c k % 257 = 0
          · have HS := Lib.hid (all_snoc (p := fun j => c j % 257 = 0) HAG.out he)
            have t3 : ((c k : Int) % 257 == 0) = true := by rw [beq_iff_eq]; omega
            have t4 : ((c k : Int) % 257 != 0) = false := by rw [bne_eq_false_iff_eq]; omega
            clear he
            go_wp2_with fail
            go_roundw
            case rel => exact ⟨k + 1, by omega, by go_num, HS.out, trivial⟩
            case measure => simp [intOf]; omega
          · have HF := Lib.hid (bytes_f hlt he)
            have t3 : ((c k : Int) % 257 == 0) = false := by rw [beq_eq_false_iff_ne]; omega
            have t4 : ((c k : Int) % 257 != 0) = true := by rw [bne_iff_ne]; omega
            clear he
            go_wp2_with fail
            go_ret
            exact ⟨ret_b (by rw [HFt.out, HF.out]), hB2⟩
        · obtain rfl : k = n := by omega
          have HF := Lib.hid (bytes_t HAG.out)
          have tl : decide (k < k) = false := by simp
          go_wp2_with fail
          go_ret
          exact ⟨ret_b (by rw [HFt.out, HF.out]), hB2⟩
    · have HFt := Lib.hid (show fitsB a b n c 2 = (colB c (n / 4) 256 && (bytesB n c && clearB (n / 4) c)) by simp [fitsB, HM.out])
      go_wp2_with fail
      go_loopw [5] (fun v wr => ∃ k : Nat, k ≤ n ∧ v = .int .i64 k ∧ (∀ j, j < k → c j % 257 = 0) ∧ Below w2.heap.size w2 wr) (fun v _ => n - (intOf v).toNat)
      case atStart => exact ⟨0, by omega, rfl, fun j hj => absurd hj (by omega), Below.refl _ _⟩
      case round =>
        obtain ⟨k, hk, rfl, hag, hB3⟩ := hrel
        have HAG := Lib.hid hag
        clear hag
        have hbx3 := hp_below hbx hB3 hs2
        have k2 := hp_cell (j := 2) hbx3 rfl
        by_cases hlt : k < n
        · obtain ⟨bk, off, rfl, hbl, hcl⟩ := hPw.below hB3 (by omega)
          have c0 := hcl k hlt
          have hck := HC.out k
          clear hcl
          have tl : decide (k < n) = true := by simpa using hlt
          by_cases he : c k % 257 = 0
          · have HS := Lib.hid (all_snoc (p := fun j => c j % 257 = 0) HAG.out he)
            have t3 : ((c k : Int) % 257 == 0) = true := by rw [beq_iff_eq]; omega
            have t4 : ((c k : Int) % 257 != 0) = false := by rw [bne_eq_false_iff_eq]; omega
            clear he
            go_wp2_with fail
            go_roundw
            case rel => exact ⟨k + 1, by omega, by go_num, HS.out, hB3⟩
            case measure => simp [intOf]; omega
          · have HF := Lib.hid (bytes_f hlt he)
            have t3 : ((c k : Int) % 257 == 0) = false := by rw [beq_eq_false_iff_ne]; omega
            have t4 : ((c k : Int) % 257 != 0) = true := by rw [bne_iff_ne]; omega
            clear he
            go_wp2_with fail
            go_ret
            exact ⟨ret_b (by rw [HFt.out, HF.out]; simp), hB2.trans (hB3.mono hB2.size)⟩
        · obtain rfl : k = n := by omega
          have HF := Lib.hid (bytes_t HAG.out)
          have tl : decide (k < k) = false := by simp
          have hk4 : k / 4 = N := by have := HN.out; omega
          have HFt2 := Lib.hid (show fitsB a b k c 2 = (colB c N 256 && clearB N c) by rw [HFt.out, HF.out, hk4]; simp)
          have hB2' := hB2.trans (hB3.mono hB2.size)
          have hP3 := hPw.below hB3
          have hs3 : w.heap.size < wr.heap.size := Nat.lt_of_lt_of_le hs2 hB3.size
          have hN4 : 4 * (N : Int) = (k : Int) := by have := HN.out; omega
          have hN4' : 4 * N ≤ k ∧ k ≤ 4 * N := by have := HN.out; omega
          have HN4 := Lib.hid hN4
          clear HAG HF hk4 HFt hbx hB2 hPw hB3 hN4
          go_wp2_with fail
          rename World => wo
          clear k2
          go_loopw [6] (fun v wr => ∃ i : Nat, i ≤ N ∧ v = .int .i64 (4 * (i : Int)) ∧ (∀ j, j < i → okPix c j) ∧ Below wo.heap.size wo wr) (fun v _ => k - (intOf v).toNat)
          case atStart => exact ⟨0, by omega, rfl, fun j hj => absurd hj (by omega), Below.refl _ _⟩
          case round =>
            obtain ⟨i, hi, rfl, hag, hB4⟩ := hrel
            have HAG := Lib.hid hag
            clear hag
            have hbx4 := hp_below hbx3 hB4 hs3
            have k2 := hp_cell (j := 2) hbx4 rfl
            by_cases hlt : i < N
            · obtain ⟨bk, off, rfl, hbl, hcl⟩ := hP3.below hB4 (by omega)
              have c0 := hcl (4 * i) (by omega)
              have c1 := hcl (4 * i + 1) (by omega)
              have c2 := hcl (4 * i + 2) (by omega)
              have c3 := hcl (4 * i + 3) (by omega)
              have g0 := HC.out (4 * i)
              have g1 := HC.out (4 * i + 1)
              have g2 := HC.out (4 * i + 2)
              have g3 := HC.out (4 * i + 3)
              clear hcl
              have tl : decide (4 * (i : Int) < (k : Int)) = true := by simp; omega
              by_cases he : okPix c i
              · have HS := Lib.hid (all_snoc HAG.out he)
                rcases okPix_iff.1 he with h3 | ⟨h0, h1, h2, h3⟩
                · have t3 : ((c (4 * i + 3) : Int) == 65535) = true := by rw [beq_iff_eq]; omega
                  have t4 : ((c (4 * i + 3) : Int) != 65535) = false := by rw [bne_eq_false_iff_eq]; omega
                  clear he h3
                  go_wp2_with fail
                  go_roundw
                  case rel => exact ⟨i + 1, by omega, by go_num, HS.out, hB4⟩
                  case measure => simp [intOf]; omega
                · rw [h0] at c0
                  rw [h1] at c1
                  rw [h2] at c2
                  rw [h3] at c3
                  clear he h0 h1 h2 h3
                  go_wp2_with fail
                  go_roundw
                  case rel => exact ⟨i + 1, by omega, by go_num, HS.out, hB4⟩
                  case measure => simp [intOf]; omega
              · have HF := Lib.hid (clear_f hlt he)
                have hne : ¬c (4 * i + 3) = 65535 := fun h => he (okPix_iff.2 (.inl h))
                have t3 : ((c (4 * i + 3) : Int) == 65535) = false := by rw [beq_eq_false_iff_ne]; omega
                have t4 : ((c (4 * i + 3) : Int) != 65535) = true := by rw [bne_iff_ne]; omega
                have hnz : ¬c (4 * i + 3) = 0 ∨ (c (4 * i + 3) = 0 ∧ ¬c (4 * i) = 0) ∨ (c (4 * i + 3) = 0 ∧ c (4 * i) = 0 ∧ ¬c (4 * i + 1) = 0) ∨ (c (4 * i + 3) = 0 ∧ c (4 * i) = 0 ∧ c (4 * i + 1) = 0 ∧ ¬c (4 * i + 2) = 0) := by
                  have h9 : ¬(c (4 * i) = 0 ∧ c (4 * i + 1) = 0 ∧ c (4 * i + 2) = 0 ∧ c (4 * i + 3) = 0) := fun h => he (okPix_iff.2 (.inr h))
                  omega
                clear he hne
                rcases hnz with h | ⟨h3, h⟩ | ⟨h3, h0, h⟩ | ⟨h3, h0, h1, h⟩
                · have t5 : ((c (4 * i + 3) : Int) == 0) = false := by rw [beq_eq_false_iff_ne]; omega
                  have t6 : ((c (4 * i + 3) : Int) != 0) = true := by rw [bne_iff_ne]; omega
                  clear h
                  go_wp2_with fail
                  go_ret
                  exact ⟨ret_b (by rw [HFt2.out, HF.out]; simp), hB2'.trans (hB4.mono hB2'.size)⟩
                · have t5 : ((c (4 * i) : Int) == 0) = false := by rw [beq_eq_false_iff_ne]; omega
                  have t6 : ((c (4 * i) : Int) != 0) = true := by rw [bne_iff_ne]; omega
                  rw [h3] at c3
                  clear h h3 t3 t4
                  go_wp2_with fail
                  go_ret
                  exact ⟨ret_b (by rw [HFt2.out, HF.out]; simp), hB2'.trans (hB4.mono hB2'.size)⟩
                · have t5 : ((c (4 * i + 1) : Int) == 0) = false := by rw [beq_eq_false_iff_ne]; omega
                  have t6 : ((c (4 * i + 1) : Int) != 0) = true := by rw [bne_iff_ne]; omega
                  rw [h3] at c3
                  rw [h0] at c0
                  clear h h3 t3 t4 h0
                  go_wp2_with fail
                  go_ret
                  exact ⟨ret_b (by rw [HFt2.out, HF.out]; simp), hB2'.trans (hB4.mono hB2'.size)⟩
                · have t5 : ((c (4 * i + 2) : Int) == 0) = false := by rw [beq_eq_false_iff_ne]; omega
                  have t6 : ((c (4 * i + 2) : Int) != 0) = true := by rw [bne_iff_ne]; omega
                  rw [h3] at c3
                  rw [h0] at c0
                  rw [h1] at c1
                  clear h h3 t3 t4 h0 h1
                  go_wp2_with fail
                  go_ret
                  exact ⟨ret_b (by rw [HFt2.out, HF.out]; simp), hB2'.trans (hB4.mono hB2'.size)⟩
            · obtain rfl : i = N := by omega
              have HFc := Lib.hid (show clearB i c = true from clear_iff.2 HAG.out)
              have tl : decide (4 * (i : Int) < (k : Int)) = false := by simp; omega
              have hP4 := hP3.below hB4
              obtain ⟨bk, off, rfl, hbl, hcl⟩ := hP4 (by omega)
              have hs4 : w.heap.size < wr.heap.size := Nat.lt_of_lt_of_le hs3 hB4.size
              have HCL := Lib.hid (fun j (hj : j < 4 * i) => hcl j (by omega))
              have HMk := HM.out
              rw [HN.out] at HMk
              have HM2 := Lib.hid HMk
              have k0 := hp_cell (j := 0) hbx4 rfl
              have k1 := hp_cell (j := 1) hbx4 rfl
              have HB4 := Lib.hid (hB2'.trans (hB4.mono hB2'.size))
              have hcu := colB_iff HC.out (N := i)
              have HCU := Lib.hid hcu
              have hki : k = 4 * i := by omega
              have HKI := Lib.hid hki
              clear HMk hcl hB4 hB2' hP3 hP4 hcu hki
              go_wp2_with fail
              rw [HKI.out]
              refine (list_ref a b bk off cap c HC.out i 256 ha hb HM2.out hN1 hN2 (by omega) hmax _ hbl HCL.out).mono ?_
              rintro e w5 ⟨⟨hle, v, u, rfl, rv, ru⟩ | ⟨hgt, rfl⟩, hB5⟩
              · obtain ⟨_, A1, c1, rfl, _, _, _⟩ := Sl.of_own rv
                obtain ⟨_, A2, c2, rfl, _, _, _⟩ := Sl.of_own ru
                have HG := Lib.hid (show fitsB a b k c 2 = true by rw [HFt2.out, HCU.out, HFc.out]; simpa using hle)
                have HB5 := Lib.hid (HB4.out.trans (hB5.mono HB4.out.size))
                clear rv ru hB5 hle
                go_wp2
                go_ret
                exact ⟨ret_b HG.out.symm, HB5.out⟩
              · have HG := Lib.hid (show fitsB a b k c 2 = false by rw [HFt2.out, HCU.out, HFc.out]; simp; omega)
                have HB5 := Lib.hid (HB4.out.trans (hB5.mono HB4.out.size))
                clear hB5 hgt
                go_wp2
                go_ret
                exact ⟨ret_b HG.out.symm, HB5.out⟩
    · have HF := Lib.hid (show fitsB a b n c f = false from fits_else (by omega))
      have t1 : decide (f < 1) = true := by simpa using hlo
      go_wp2_with fail
      go_ret
      exact ⟨ret_b HF.out.symm, hB2⟩
    · have HF := Lib.hid (show fitsB a b n c f = false from fits_else (by omega))
      have t1 : decide (f < 1) = false := by simp; omega
      have t2 : decide (3 < f) = true := by simpa using hhi
      go_wp2_with fail
      go_ret
      exact ⟨ret_b HF.out.symm, hB2⟩
end Go.Proofs.YtdooefnckdklmaaDoor

namespace Go.Proofs.YtdooefnckdklmaaDoor
set_option maxRecDepth 100000
set_option linter.unusedVariables false
open Go.ChangeShapes Go.WideShapes Go.ChangeAt Go.RowKit

/-- append to a row of one's own, whatever slice is appended. -/
theorem run_app {P : Program} {w : World} (base : Nat) (t ty e : TypeId) (i : TypeInfo) (z : Value) (size bytes : Nat) (ht : P.underlying t = some (.slice e)) (hi : P.info? e = some i) (hz : i.zero = some z)
    (hsize : i.size = size) (hby : i.bytes = bytes) (hzs : z.cells.size = size) (hsz : 0 < size)
    (v : Value) (n : Nat) (xs : List Value) (hown : w.ownsRow base e size v n xs)
    (A : Option Addr) (m c : Nat) (news : List Value) (hA : A = none → c = 0) (hl : news.length = m * size) (hnews : 0 < m → ∃ b off, A = some ⟨b, off, none⟩ ∧ ∀ j u, news[j]? = some u → w.cell? ⟨b, off + j, none⟩ = some u) (h1 : ∀ u ∈ news, u.oneCell' = true)
    (h63 : n + m ≤ maxLen) (hbytes : (n + m) * bytes ≤ 140737488355328) (hbase : base ≤ w.heap.size) :
    ∃ v' w', (Builtin.append_ #[t, t] ty #[v, .slice A m c]).run P w = .ok v' w' ∧ w'.ownsRow base e size v' (n + m) (xs ++ news) ∧ w.grownBy w' v.ownBlock ∧ (v'.ownBlock = v.ownBlock ∨ v'.ownBlock = some w.heap.size) := by
  cases A with
  | none =>
    have hm : m = 0 := by
      apply Nat.eq_zero_of_not_pos
      intro h
      obtain ⟨b, off, he, _⟩ := hnews h
      cases he
    have hc := hA rfl
    subst hm hc
    have hn : news = [] := List.eq_nil_of_length_eq_zero (by omega)
    subst hn
    exact ⟨v, w, run_append_owned_none w base t ty e i size ht hi v n xs hown, by simpa using hown, ⟨rfl, rfl, rfl, Nat.le_refl _, fun _ _ _ => rfl⟩, .inl rfl⟩
  | some ad =>
    have hcell : ∀ j u, news[j]? = some u → w.cell? (ad.add j) = some u := by
      intro j u hj
      have hm : 0 < m := by
        apply Nat.pos_of_ne_zero
        intro h
        rw [h, Nat.zero_mul] at hl
        rw [List.eq_nil_of_length_eq_zero hl] at hj
        simp at hj
      obtain ⟨b, off, he, hc⟩ := hnews hm
      cases he
      rw [Addr.add_lit]
      exact hc j u hj
    obtain ⟨v', w', g1, g2, g3, _, g5⟩ := run_append_own_at w base t ty e i z size bytes ht hi hz hsize hby hzs hsz v n xs hown ad m c news hl hcell h1 h63 hbytes hbase
    exact ⟨v', w', g1, g2, g3, g5⟩

theorem wpList_app {P : Program} {w : World} {ops : Array Oper} {rest : List Oper} {o : Oper} {a : Act} {Q : Exit → Act → World → Prop} (hgd : o.guard = none) (s x : Operand) (t : TypeId)
    (ho : o.op = .call { callee := .builtin .append, args := #[s, x], argTypes := #[t, t] }) (v sv v' : Value) (w' : World) (hs : a.eval s = v) (hx : a.eval x = sv)
    (hrun : (Builtin.append_ #[t, t] o.type #[v, sv]).run P w = .ok v' w') (h : wpList P ops Q rest (a.put o.dst v') w') : wpList P ops Q (o :: rest) a w := by
  refine wpList_plain hgd fun K hK => ?_
  unfold Oper.wp
  simp [execOp, ho, resolve, invoke, builtin, hs, hx, hrun, Result.andThen]
  exact hK _ _ h
theorem step_app {P : Program} {w : World} {ops : Array Oper} {o : Oper} {a : Act} {K : Act → World → Prop} {Q : Exit → Act → World → Prop} {E : Prop} (hgd : o.guard = none) (s x : Operand) (t : TypeId)
    (ho : o.op = .call { callee := .builtin .append, args := #[s, x], argTypes := #[t, t] }) (v sv v' : Value) (w' : World) (hs : a.eval s = v) (hx : a.eval x = sv)
    (hrun : (Builtin.append_ #[t, t] o.type #[v, sv]).run P w = .ok v' w') (h : K (a.put o.dst v') w') : if Region.wanted o (yielded ops a.tmps) = true then Oper.wp P o a w K Q else E := by
  have hw : Region.wanted o (yielded ops a.tmps) = true := by simp [Region.wanted, hgd]
  rw [if_pos hw]
  unfold Oper.wp
  simp [execOp, ho, resolve, invoke, builtin, hs, hx, hrun, Result.andThen]
  exact h
/-- A picture's samples in a row of one's own. -/
def Own (B : Nat) (w : World) (A : Option Addr) (n : Nat) (c : Nat → Nat) : Prop :=
  0 < n → ∃ g cur, A = some ⟨g, 0, none⟩ ∧ B ≤ g ∧ w.heap[g]? = some (.cells cur 42 (0, 0)) ∧ n ≤ cur.size ∧ ∀ j, j < n → cur[j]? = some (.int .u16 (c j : Nat))
theorem Own.pix {B : Nat} {w : World} {A : Option Addr} {n : Nat} {c : Nat → Nat} (h : Own B w A n c) : Pix w A n c := fun hn => by
  obtain ⟨g, cur, rfl, hB, hg, hs, hc⟩ := h hn
  exact ⟨g, 0, rfl, (Array.getElem?_eq_some_iff.1 hg).1, fun j hj => by rw [Nat.zero_add]; exact hp_cell hg (hc j hj)⟩
theorem Own.below {B : Nat} {w w' : World} {A : Option Addr} {n : Nat} {c : Nat → Nat} (h : Own B w A n c) (hb : Below w.heap.size w w') : Own B w' A n c := fun hn => by
  obtain ⟨g, cur, rfl, hB, hg, hs, hc⟩ := h hn
  exact ⟨g, cur, rfl, hB, hp_below hg hb (Array.getElem?_eq_some_iff.1 hg).1, hs, hc⟩
theorem Own.le {B B' : Nat} {w : World} {A : Option Addr} {n : Nat} {c : Nat → Nat} (h : Own B w A n c) (hb : B' ≤ B) : Own B' w A n c := fun hn => by
  obtain ⟨g, cur, rfl, hB, hg, hs, hc⟩ := h hn
  exact ⟨g, cur, rfl, Nat.le_trans hb hB, hg, hs, hc⟩
/-- Another block is written. -/
theorem Own.grown {B : Nat} {w w' : World} {A : Option Addr} {n : Nat} {c : Nat → Nat} {g : Nat} (h : Own B w A n c) (hg : w.grownBy w' (some g)) (hne : ∀ k, A = some ⟨k, 0, none⟩ → k ≠ g) : Own B w' A n c := fun hn => by
  obtain ⟨k, cur, rfl, hB, hk, hs, hc⟩ := h hn
  exact ⟨k, cur, rfl, hB, (hg.block k (Array.getElem?_eq_some_iff.1 hk).1 (fun e => by injection e with e; exact hne k rfl e)).trans hk, hs, hc⟩
theorem Own.set {B : Nat} {w : World} {A : Option Addr} {n : Nat} {c : Nat → Nat} {g : Nat} (h : Own B w A n c) (hg : g < B) (i : Nat) (v : Value) : Own B (w.setCell ⟨g, i, none⟩ v) A n c := fun hn => by
  obtain ⟨k, cur, rfl, hB, hk, hs, hc⟩ := h hn
  exact ⟨k, cur, rfl, hB, ((grown_set w g i v).block k (Array.getElem?_eq_some_iff.1 hk).1 (fun e => by injection e; omega)).trans hk, hs, hc⟩
theorem Own.lt {B : Nat} {w : World} {A : Option Addr} {n : Nat} {c : Nat → Nat} (h : Own B w A n c) : ∀ k, 0 < n → A = some ⟨k, 0, none⟩ → B ≤ k ∧ k < w.heap.size := fun k hn he => by
  obtain ⟨g, cur, h1, hB, hg, _⟩ := h hn
  rw [he] at h1
  injection h1 with h1
  injection h1 with h1
  subst h1
  exact ⟨hB, (Array.getElem?_eq_some_iff.1 hg).1⟩
theorem Own.frame {B : Nat} {w w' : World} {A A' : Option Addr} {n m : Nat} {c : Nat → Nat} (h : Own B w A n c) (hfr : ∀ g o, w.heap[g]? = some o → (∀ k, 0 < m → A' = some ⟨k, 0, none⟩ → k ≠ g) → w'.heap[g]? = some o)
    (hne : ∀ g k, A = some ⟨g, 0, none⟩ → 0 < n → 0 < m → A' = some ⟨k, 0, none⟩ → k ≠ g) : Own B w' A n c := fun hn => by
  obtain ⟨g, cur, rfl, hB, hg, hs, hcl⟩ := h hn
  exact ⟨g, cur, rfl, hB, hfr g _ hg (fun k hm he => hne g k rfl hn hm he), hs, hcl⟩

def cells16 (n : Nat) (c : Nat → Nat) : List Value := (List.range n).map fun j => .int .u16 (c j : Nat)
theorem cells16_get (n : Nat) (c : Nat → Nat) (j : Nat) (hj : j < n) : (cells16 n c)[j]? = some (.int .u16 (c j : Nat)) := by simp [cells16, hj]
theorem cells16_one (n : Nat) (c : Nat → Nat) : ∀ u ∈ cells16 n c, u.oneCell' = true := by
  intro u hu
  obtain ⟨j, _, rfl⟩ := List.mem_map.1 hu
  rfl
theorem Own.of_row {B : Nat} {w : World} {n : Nat} {v : Value} {c : Nat → Nat} (h : w.ownsRow B 42 1 v n (cells16 n c)) : ∃ A cap, v = .slice A n cap ∧ n ≤ cap ∧ cap ≤ maxLen ∧ (A = none → cap = 0) ∧ Own B w A n c := by
  obtain ⟨_, hf⟩ := h
  rcases hf with ⟨rfl, h0⟩ | ⟨g, cap, cur, rfl, hB, hg, hnc, hcm, hcs, ht⟩
  · subst h0
    exact ⟨none, 0, rfl, Nat.le_refl _, by simp [maxLen], fun _ => rfl, fun h => absurd h (by omega)⟩
  · refine ⟨_, cap, rfl, hnc, hcm, (fun h => by cases h), fun hn => ⟨g, cur, rfl, hB, hg, by omega, fun j hj => ?_⟩⟩
    rw [← cells16_get n c j hj, ← ht]
    simp [hj]

theorem pix_news {w : World} {A : Option Addr} {n : Nat} {c : Nat → Nat} (h : Pix w A n c) : 0 < n → ∃ b off, A = some ⟨b, off, none⟩ ∧ ∀ j u, (cells16 n c)[j]? = some u → w.cell? ⟨b, off + j, none⟩ = some u := fun hn => by
  obtain ⟨bk, off, rfl, hlt, hc⟩ := h hn
  refine ⟨bk, off, rfl, fun j u hj => ?_⟩
  have hj' : j < n := by have := (List.getElem?_eq_some_iff.1 hj).1; simpa [cells16] using this
  rw [cells16_get n c j hj'] at hj
  rw [hc j hj', hj]

theorem own_empty (w : World) : (w.alloc (.cells #[] 42)).ownsRow w.heap.size 42 1 (.slice (some ⟨w.heap.size, 0, none⟩) 0 0) 0 [] :=
  ⟨rfl, .inr ⟨w.heap.size, 0, #[], rfl, Nat.le_refl _, hp_new0 w _, Nat.le_refl _, by simp [maxLen], rfl, rfl⟩⟩
/-- n samples in a new row. -/
def NewRow (B : Nat) (w : World) (n : Nat) (A : Option Addr) (cap : Nat) (c : Nat → Nat) : Prop := n ≤ cap ∧ cap ≤ maxLen ∧ (A = none → cap = 0) ∧ Own B w A n c
theorem NewRow.of_row {B : Nat} {w : World} {n : Nat} {v : Value} {c : Nat → Nat} (h : w.ownsRow B 42 1 v n (cells16 n c)) : ∃ A cap, v = .slice A n cap ∧ NewRow B w n A cap c := by
  obtain ⟨A, cap, h1, h2, h3, h4, h5⟩ := Own.of_row h
  exact ⟨A, cap, h1, h2, h3, h4, h5⟩
theorem NewRow.set {B : Nat} {w : World} {n : Nat} {A : Option Addr} {cap : Nat} {c : Nat → Nat} {g : Nat} (h : NewRow B w n A cap c) (hg : g < B) (i : Nat) (v : Value) : NewRow B (w.setCell ⟨g, i, none⟩ v) n A cap c := ⟨h.1, h.2.1, h.2.2.1, h.2.2.2.set hg i v⟩
theorem NewRow.le {B B' : Nat} {w : World} {n : Nat} {A : Option Addr} {cap : Nat} {c : Nat → Nat} (h : NewRow B w n A cap c) (hb : B' ≤ B) : NewRow B' w n A cap c := ⟨h.1, h.2.1, h.2.2.1, h.2.2.2.le hb⟩
def clonePost (n : Nat) (c : Nat → Nat) (w : World) (e : Ending) (w' : World) : Prop := ∃ A' cap', e = .returned (.slice A' n cap') ∧ NewRow w.heap.size w' n A' cap' c

theorem results_cell1 {fn : Func} {p : Tmp} {ty : TypeId} (h : fn.results = #[.cell p ty]) (tmps : Array Value) (P : Program) (w : World) :
    (results fn tmps).run P w = ((asAddr (tmps.getD p undef)).run P w).andThen fun a w₁ => (loadVar ty a).run P w₁ := by
  simp only [results, h]
  simp [Sem.run_bind, Result.andThen]
def copyPost (a b : Int) (n : Nat) (c : Nat → Nat) (w : World) (e : Ending) (w' : World) : Prop := ∃ A' cap', e = .returned (.agg #[.int .i64 a, .int .i64 b, .slice A' n cap']) ∧ NewRow w.heap.size w' n A' cap' c

end Go.Proofs.YtdooefnckdklmaaDoor
