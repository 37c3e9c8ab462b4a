/- palette.Make. engraverref8.Make. engraverref8.At and Set; Set of both, over rows of one's own. -/
import Derived.Test.YtlgoohhfpmomhaaM4

namespace Go.Proofs.Ytlgoohhfpmomhaa
set_option maxRecDepth 100000
set_option linter.unusedVariables false
open Go.ChangeShapes Go.WideShapes Go.ChangeAt Go.RowKit Go.Shelf
open Go.Maps
attribute [local go_sem] Oper.semAt_some

def placesL (l : List P4) : List Nat := (List.range l.length).map fun j => (uni (l.take j)).idxOf ((l[j]?).getD (0, 0, 0, 0))
theorem placesL_snoc (l : List P4) (p : P4) : placesL (l ++ [p]) = placesL l ++ [(uni l).idxOf p] := by
  unfold placesL
  rw [List.length_append, List.length_singleton, List.range_succ, List.map_append]
  congr 1
  · apply List.map_congr_left
    intro j hj
    have hj' : j < l.length := by simpa using hj
    rw [List.take_append_of_le_length (by omega), List.getElem?_append_left hj']
  · simp
theorem placesL_len (l : List P4) : (placesL l).length = l.length := by simp [placesL]
theorem placesL_ll (c : Nat → Nat) (N : Nat) : placesL (ll c N) = pl c N := by
  induction N with
  | zero => rfl
  | succ N ih =>
    have e : ll c (N + 1) = ll c N ++ [p4 c N] := by unfold ll; rw [List.range_succ, List.map_append]; rfl
    rw [e, placesL_snoc, ih, pl_succ]
    rfl
def clearIx (L : List P4) : Int := if (0, 0, 0, 0) ∈ L then (L.idxOf (0, 0, 0, 0) : Nat) else -1
theorem clearIx_ne {L : List P4} {p : P4} (hp : ¬p = (0, 0, 0, 0)) : clearIx (L ++ [p]) = clearIx L := by
  have h0 : ¬((0, 0, 0, 0) : P4) = p := fun h => hp h.symm
  unfold clearIx
  by_cases h : ((0, 0, 0, 0) : P4) ∈ L
  · rw [if_pos (by simp [h]), if_pos h, List.idxOf_append, if_pos h]
  · rw [if_neg (by simp [h]; simpa using h0), if_neg h]
theorem clearIx_eq {L : List P4} {p : P4} (hp : p = (0, 0, 0, 0)) (hn : ¬p ∈ L) : clearIx (L ++ [p]) = (L.length : Nat) := by
  subst hp
  unfold clearIx
  rw [if_pos (by simp), List.idxOf_append, if_neg hn]
  simp
def byteL (l : List Nat) : List Value := l.map fun k => .int .u8 ((k % 256 : Nat) : Int)
theorem uni_snoc (l : List P4) (p : P4) : uni (l ++ [p]) = if p ∈ uni l then uni l else uni l ++ [p] := by
  unfold uni
  rw [List.foldl_append]
  rfl
theorem uni_len (l : List P4) : (uni l).length ≤ l.length := by
  have h : ∀ (l acc : List P4), (l.foldl addP acc).length ≤ acc.length + l.length := by
    intro l
    induction l with
    | nil => intro acc; simp
    | cons x l ih =>
      intro acc
      rw [List.foldl_cons]
      have h1 := ih (addP acc x)
      have h2 : (addP acc x).length ≤ acc.length + 1 := by unfold addP; split <;> simp
      simp only [List.length_cons]
      omega
  simpa [uni] using h l []
theorem klP_key (p : P4) : WideAt.IsKeyLit (klP p) := trivial
/-- The map holds the places of L. -/
def MapIs (D : DataW Unit) (L : List P4) : Prop := IsMap D ∧ ∀ p, w4 p → Maps.has D (klP p) = decide (p ∈ L) ∧ (p ∈ L → D.atKey (klP p) (.lit (.int .i64 0)) = .lit (.int .i64 (L.idxOf p : Nat)))
theorem MapIs.put {D : DataW Unit} {L : List P4} (h : MapIs D L) {p : P4} (hp : w4 p) (hn : p ∉ L) : MapIs (D.put (klP p) (.lit (.int .i64 (L.length : Nat)))) (L ++ [p]) := by
  obtain ⟨hm, hh⟩ := h
  refine ⟨hm.put _ _, fun q hq => ?_⟩
  by_cases e : q = p
  · subst e
    refine ⟨by rw [Maps.has_put_same hm (klP_key _)]; simp, fun _ => ?_⟩
    rw [Maps.atKey_put_same hm (klP_key _), List.idxOf_append, if_neg hn]
    simp
  · have ek : klP q ≠ klP p := fun h => e (klP_inj hq hp h)
    obtain ⟨h1, h2⟩ := hh q hq
    refine ⟨?_, fun hm2 => ?_⟩
    · rw [Maps.has_put_other ek, h1]
      simp [e]
    · have hq2 : q ∈ L := by simpa [e] using hm2
      rw [Maps.atKey_put_other ek, h2 hq2, List.idxOf_append, if_pos hq2]

/-! ### The state of a round -/
structure MS (w2 : World) (m : Nat) (Lm : List P4) (n : Nat) (L : List P4) (cl : Int) (Li : List Nat) (v u : Value) (D : DataW Unit) (W : World) : Prop where
  pb : W.heap[m]? = some (.cells #[v, .int .i64 cl] 52 (0, 0))
  mb : W.heap[m + 1 + 1]? = some (.cells #[.map (some (m + 1))] 74 (0, 0))
  ib : W.heap[m + 1 + 1 + 1]? = some (.cells #[u] 32 (0, 0))
  own : W.ownsMap Try.prog 41 (plainElem Try.prog 3) (m + 1) n D
  mis : MapIs D Lm
  rv : W.ownsRow (m + 6) 41 4 v L.length (cellsP L)
  ru : W.ownsRow (m + 6) 5 1 u Li.length (byteL Li)
  ne : v.ownBlock = none ∨ v.ownBlock ≠ u.ownBlock
  below : Below m w2 W
  size : m + 6 ≤ W.heap.size
theorem lt_heap {W : World} {k : Nat} {o : Obj} (h : W.heap[k]? = some o) : k < W.heap.size := (Array.getElem?_eq_some_iff.1 h).1
section
variable {w2 : World} {m : Nat} {Lm L : List P4} {n : Nat} {cl : Int} {Li : List Nat} {v u : Value} {D : DataW Unit} {W W' : World} {row : Option Nat}
theorem MS.kept (h : MS w2 m Lm n L cl Li v u D W) (hg : W.grownBy W' row) (hr : ∀ r, row = some r → m + 6 ≤ r) (hv : v.ownBlock = none ∨ v.ownBlock ≠ row) (hu : u.ownBlock = none ∨ u.ownBlock ≠ row) : MS w2 m Lm n L cl Li v u D W' := by
  have hs := h.size
  have ne : ∀ k, k < m + 6 → some k ≠ row := fun k hk e => by have := hr k e.symm; omega
  exact ⟨(hg.block _ (lt_heap h.pb) (ne _ (by omega))).trans h.pb, (hg.block _ (lt_heap h.mb) (ne _ (by omega))).trans h.mb, (hg.block _ (lt_heap h.ib) (ne _ (by omega))).trans h.ib,
    h.own.kept hg (ne (m + 1) (by omega)), h.mis, h.rv.kept hg hv, h.ru.kept hg hu, h.ne, h.below.grown hg (by omega) (fun r e => by have := hr r e; omega), Nat.le_trans h.size hg.size⟩
theorem MS.alloc (h : MS w2 m Lm n L cl Li v u D W) (o : Obj) : MS w2 m Lm n L cl Li v u D (W.alloc o) :=
  h.kept (World.grownBy_alloc W o none) (fun r e => by cases e) (by cases v.ownBlock <;> simp) (by cases u.ownBlock <;> simp)
theorem MS.drew (h : MS w2 m Lm n L cl Li v u D W) : MS w2 m Lm n L cl Li v u D W.drew :=
  h.kept (grown_drewS W none) (fun r e => by cases e) (by cases v.ownBlock <;> simp) (by cases u.ownBlock <;> simp)
theorem MS.others (h : MS w2 m Lm n L cl Li v u D W) (hg : W.grownBy W' row) (hr : ∀ r, row = some r → m + 6 ≤ r ∧ ∃ o : Obj, W.heap[r]? = some o ∧ o.isCells = false) : MS w2 m Lm n L cl Li v u D W' := by
  have hx : ∀ {e : TypeId} {size k : Nat} {x : Value} {xs : List Value}, W.ownsRow (m + 6) e size x k xs → x.ownBlock = none ∨ x.ownBlock ≠ row := fun {e size k x xs} hrow => by
    rcases hrow.2 with ⟨rfl, _⟩ | ⟨g, cap, cur, rfl, hB, hg2, _⟩
    · exact .inl rfl
    · refine .inr fun e2 => ?_
      obtain ⟨_, o, ho, hnc⟩ := hr g e2.symm
      rw [hg2] at ho
      injection ho with ho
      subst ho
      cases hnc
  exact h.kept hg (fun r e => (hr r e).1) (hx h.rv) (hx h.ru)
theorem own_apart {w : World} {base : Nat} {e : TypeId} {size k : Nat} {x : Value} {xs : List Value} (h : w.ownsRow base e size x k xs) {r : Nat} (hr : r < base ∨ w.heap.size ≤ r) : x.ownBlock = none ∨ x.ownBlock ≠ some r := by
  cases hx : x.ownBlock with
  | none => exact .inl rfl
  | some g =>
    refine .inr fun e => ?_
    injection e with e
    have := h.lt g hx
    omega
theorem MS.setFar (h : MS w2 m Lm n L cl Li v u D W) {K : Nat} (hK : m + 6 ≤ K) (i : Nat) (x : Value) (hv : v.ownBlock = none ∨ v.ownBlock ≠ some K) (hu : u.ownBlock = none ∨ u.ownBlock ≠ some K) : MS w2 m Lm n L cl Li v u D (W.setCell ⟨K, i, none⟩ x) :=
  h.kept (grown_set W K i x) (fun r e => by cases e; exact hK) hv hu
theorem MS.stepMap (h : MS w2 m Lm n L cl Li v u D W) {p : P4} (hp : w4 p) (hn : p ∉ Lm) (hg : W.grownBy W' (some (m + 1))) (ho : W'.ownsMap Try.prog 41 (plainElem Try.prog 3) (m + 1) (n + 1) (D.put (klP p) (.lit (.int .i64 (Lm.length : Nat))))) :
    MS w2 m (Lm ++ [p]) (n + 1) L cl Li v u (D.put (klP p) (.lit (.int .i64 (Lm.length : Nat)))) W' := by
  have hs := h.size
  have ne : ∀ k, k ≠ m + 1 → some k ≠ some (m + 1) := fun k hk e => by injection e with e; exact hk e
  exact ⟨(hg.block _ (lt_heap h.pb) (ne _ (by omega))).trans h.pb, (hg.block _ (lt_heap h.mb) (ne _ (by omega))).trans h.mb, (hg.block _ (lt_heap h.ib) (ne _ (by omega))).trans h.ib,
    ho, h.mis.put hp hn, h.rv.kept hg (own_apart h.rv (.inl (by omega))), h.ru.kept hg (own_apart h.ru (.inl (by omega))), h.ne, h.below.grown hg (by omega) (fun r e => by injection e; omega), Nat.le_trans h.size hg.size⟩
theorem heap_set {W : World} {b i : Nat} {x : Value} {cs : Array Value} {t : TypeId} (h : W.heap[b]? = some (.cells cs t (0, 0))) : (W.setCell ⟨b, i, none⟩ x).heap[b]? = some (.cells (cs.setIfInBounds i x) t (0, 0)) := by
  have hl := (Array.getElem?_eq_some_iff.1 h).1
  have he := (Array.getElem?_eq_some_iff.1 h).2
  unfold World.setCell
  simp [hl, he, Array.getElem_modify]
theorem MS.stepClear (h : MS w2 m Lm n L cl Li v u D W) (cl' : Int) : MS w2 m Lm n L cl' Li v u D (W.setCell ⟨m, 1, none⟩ (.int .i64 cl')) := by
  have hs := h.size
  have hg := grown_set W m 1 (.int .i64 cl')
  have ne : ∀ k, k ≠ m → some k ≠ some m := fun k hk e => by injection e with e; exact hk e
  exact ⟨heap_set h.pb, (hg.block _ (lt_heap h.mb) (ne _ (by omega))).trans h.mb, (hg.block _ (lt_heap h.ib) (ne _ (by omega))).trans h.ib,
    h.own.kept hg (ne _ (by omega)), h.mis, h.rv.kept hg (own_apart h.rv (.inl (by omega))), h.ru.kept hg (own_apart h.ru (.inl (by omega))), h.ne, h.below.setCell (p := ⟨m, 1, none⟩) (Nat.le_refl _) _, Nat.le_trans h.size hg.size⟩
theorem MS.stepCol (h : MS w2 m Lm n L cl Li v u D W) {p : P4} {v' : Value} (hg : W.grownBy W' v.ownBlock) (ho : W'.ownsRow (m + 6) 41 4 v' (L.length + 1) (cellsP L ++ cP p)) (hat : v'.ownBlock = v.ownBlock ∨ v'.ownBlock = some W.heap.size) :
    MS w2 m Lm n (L ++ [p]) cl Li v' u D (W'.setCell ⟨m, 0, none⟩ v') := by
  have hs := h.size
  have hvb : ∀ r, v.ownBlock = some r → m + 6 ≤ r := fun r e => (h.rv.lt r e).1
  have ne : ∀ k, k < m + 6 → some k ≠ v.ownBlock := fun k hk e => by have := hvb k e.symm; omega
  have hg2 := grown_set W' m 0 v'
  have ne2 : ∀ k, k ≠ m → some k ≠ some m := fun k hk e => by injection e with e; exact hk e
  have pb1 := (hg.block _ (lt_heap h.pb) (ne _ (by omega))).trans h.pb
  have mb1 := (hg.block _ (lt_heap h.mb) (ne _ (by omega))).trans h.mb
  have ib1 := (hg.block _ (lt_heap h.ib) (ne _ (by omega))).trans h.ib
  have ru1 := h.ru.kept hg (by
    rcases h.ne with e | e
    · rw [e]; cases u.ownBlock <;> simp
    · exact .inr (Ne.symm e))
  have ne3 : v'.ownBlock = none ∨ v'.ownBlock ≠ u.ownBlock := by
    rcases hat with e | e
    · rw [e]; exact h.ne
    · refine .inr ?_
      rw [e]
      intro e2
      have := (h.ru.lt _ e2.symm).2
      omega
  exact ⟨heap_set pb1, (hg2.block _ (lt_heap mb1) (ne2 _ (by omega))).trans mb1, (hg2.block _ (lt_heap ib1) (ne2 _ (by omega))).trans ib1,
    (h.own.kept hg (ne _ (by omega))).kept hg2 (ne2 _ (by omega)), h.mis, by rw [List.length_append, cellsP_snoc]; exact ho.kept hg2 (own_apart ho (.inl (by omega))), ru1.kept hg2 (own_apart ru1 (.inl (by omega))), ne3,
    (h.below.grown hg (by omega) (fun r e => by have := hvb r e; omega)).setCell (p := ⟨m, 0, none⟩) (Nat.le_refl _) _, Nat.le_trans (Nat.le_trans h.size hg.size) hg2.size⟩
theorem MS.stepIdx (h : MS w2 m Lm n L cl Li v u D W) {k : Nat} {u' : Value} (hg : W.grownBy W' u.ownBlock) (ho : W'.ownsRow (m + 6) 5 1 u' (Li.length + 1) (byteL Li ++ [.int .u8 ((k % 256 : Nat) : Int)])) (hat : u'.ownBlock = u.ownBlock ∨ u'.ownBlock = some W.heap.size) :
    MS w2 m Lm n L cl (Li ++ [k]) v u' D (W'.setCell ⟨m + 1 + 1 + 1, 0, none⟩ u') := by
  have hs := h.size
  have hub : ∀ r, u.ownBlock = some r → m + 6 ≤ r := fun r e => (h.ru.lt r e).1
  have ne : ∀ k, k < m + 6 → some k ≠ u.ownBlock := fun k hk e => by have := hub k e.symm; omega
  have hg2 := grown_set W' (m + 1 + 1 + 1) 0 u'
  have ne2 : ∀ k, k ≠ m + 1 + 1 + 1 → some k ≠ some (m + 1 + 1 + 1) := fun k hk e => by injection e with e; exact hk e
  have pb1 := (hg.block _ (lt_heap h.pb) (ne _ (by omega))).trans h.pb
  have mb1 := (hg.block _ (lt_heap h.mb) (ne _ (by omega))).trans h.mb
  have ib1 := (hg.block _ (lt_heap h.ib) (ne _ (by omega))).trans h.ib
  have rv1 := h.rv.kept hg h.ne
  have ne3 : v.ownBlock = none ∨ v.ownBlock ≠ u'.ownBlock := by
    rcases hat with e | e
    · rw [e]; exact h.ne
    · rw [e]; exact own_apart h.rv (.inr (Nat.le_refl _))
  have eb : byteL (Li ++ [k]) = byteL Li ++ [.int .u8 ((k % 256 : Nat) : Int)] := by simp [byteL]
  exact ⟨(hg2.block _ (lt_heap pb1) (ne2 _ (by omega))).trans pb1, (hg2.block _ (lt_heap mb1) (ne2 _ (by omega))).trans mb1, heap_set ib1,
    (h.own.kept hg (ne _ (by omega))).kept hg2 (ne2 _ (by omega)), h.mis, rv1.kept hg2 (own_apart rv1 (.inl (by omega))), by rw [List.length_append, eb]; exact ho.kept hg2 (own_apart ho (.inl (by omega))), ne3,
    (h.below.grown hg (by omega) (fun r e => by have := hub r e; omega)).setCell (p := ⟨m + 1 + 1 + 1, 0, none⟩) (by simp; omega) _, Nat.le_trans (Nat.le_trans h.size hg.size) hg2.size⟩
end
/-! ### What a round keeps -/
def RK (m : Nat) (W W' : World) : Prop := KeepsFrom (m + 6) W W' ∧ KpC m (m + 1 + 1 + 1 + 1) (m + 1 + 1 + 1 + 1 + 1) W W' ∧ W.heap.size ≤ W'.heap.size
section
variable {m : Nat} {W W' W'' : World}
theorem RK.refl (m : Nat) (W : World) : RK m W W := ⟨KeepsFrom.refl _ _, kpC_refl _ _ _ _, Nat.le_refl _⟩
theorem RK.trans (h : RK m W W') (k : RK m W' W'') : RK m W W'' := ⟨h.1.trans k.1, kpC_trans h.2.1 k.2.1, Nat.le_trans h.2.2 k.2.2⟩
theorem RK.of_grown {row : Option Nat} (hs : m + 6 ≤ W.heap.size) (hg : W.grownBy W' row) (hk : KeepsFrom (m + 6) W W') (hr : ∀ r, row = some r → m ≤ r ∧ r ≠ m + 1 + 1 + 1 + 1 ∧ r ≠ m + 1 + 1 + 1 + 1 + 1) : RK m W W' :=
  ⟨hk, ⟨(Below.refl _ _).grown hg (by omega) (fun r e => (hr r e).1), hg.block _ (by omega) (fun e => (hr _ e.symm).2.1 rfl), hg.block _ (by omega) (fun e => (hr _ e.symm).2.2 rfl)⟩, hg.size⟩
theorem RK.drew (h : RK m W W') (hs : m + 6 ≤ W.heap.size) : RK m W W'.drew := h.trans (RK.of_grown (Nat.le_trans hs h.2.2) (grown_drewS W' none) ((KeepsOthers.drew W').from _) (fun r e => by cases e))
theorem RK.alloc (h : RK m W W') (hs : m + 6 ≤ W.heap.size) (o : Obj) : RK m W (W'.alloc o) := h.trans (RK.of_grown (Nat.le_trans hs h.2.2) (World.grownBy_alloc W' o none) ((KeepsOthers.alloc W' o).from _) (fun r e => by cases e))
theorem RK.set (h : RK m W W') (hs : m + 6 ≤ W.heap.size) {K : Nat} (hK : m ≤ K ∧ K ≠ m + 1 + 1 + 1 + 1 ∧ K ≠ m + 1 + 1 + 1 + 1 + 1) (i : Nat) (x : Value) : RK m W (W'.setCell ⟨K, i, none⟩ x) :=
  h.trans (RK.of_grown (Nat.le_trans hs h.2.2) (grown_set W' K i x) ((KeepsOthers.setCell W' ⟨K, i, none⟩ x).from _) (fun r e => by cases e; exact hK))
theorem RK.map (h : RK m W W') (hs : m + 6 ≤ W.heap.size) (hg : W'.grownBy W'' (some (m + 1))) : RK m W W'' :=
  h.trans (RK.of_grown (Nat.le_trans hs h.2.2) hg (KeepsFrom.of_grownBy hg (fun j e => by cases e; omega)) (fun r e => by cases e; omega))
theorem RK.app (h : RK m W W') (hs : m + 6 ≤ W.heap.size) {e : TypeId} {size k : Nat} {x : Value} {xs : List Value} (ho : W'.ownsRow (m + 6) e size x k xs) (hg : W'.grownBy W'' x.ownBlock) : RK m W W'' := by
  refine h.trans (RK.of_grown (Nat.le_trans hs h.2.2) hg ((KeepsOthers.of_grownBy hg ?_).from _) (fun r e => by have := (ho.lt r e).1; omega))
  intro j o hj hjo
  rcases ho.2 with ⟨rfl, _⟩ | ⟨g, cap, cur, rfl, hB, hg2, _⟩
  · cases hj
  · cases hj
    rw [hg2] at hjo
    injection hjo with hjo
    subst hjo
    rfl
end
theorem mapIs_nil : MapIs (.map []) [] := ⟨⟨[], rfl⟩, fun p hp => ⟨by simp [Maps.has], fun h => by simp at h⟩⟩
/-- The body's invariant. -/
def MJ (w2 : World) (m : Nat) (l : List P4) (W : World) : Prop := ∃ v u D, MS w2 m (uni l) l.length (uni l) (clearIx (uni l)) (placesL l) v u D W
def makeOk (c : Nat → Nat) (N : Nat) (w : World) (e : Ending) (w' : World) : Prop :=
  ∃ v u, e = .returned (.tuple #[.agg #[v, .int .i64 (clearIx (U c N))], u, .bool true]) ∧ w'.ownsRow w.heap.size 41 4 v (U c N).length (cellsP (U c N)) ∧ w'.ownsRow w.heap.size 5 1 u N (byteL (pl c N))

theorem own_end {W : World} {base : Nat} {e : TypeId} {size k : Nat} {v x y : Value} {xs : List Value} {K D : Nat} {q : Option (List Deferred)} (h : W.ownsRow base e size v k xs) (hK : K < base)
    (hD : (((W.setCell ⟨K, 0, none⟩ x).setCell ⟨K, 1, none⟩ y).drew).heap[D]? = some (.deferred q)) : ((((W.setCell ⟨K, 0, none⟩ x).setCell ⟨K, 1, none⟩ y).drew).putObj D (.deferred none)).ownsRow base e size v k xs := by
  have h1 := h.kept (grown_set W K 0 x) (own_apart h (.inl hK))
  have h2 := h1.kept (grown_set _ K 1 y) (own_apart h1 (.inl hK))
  have h3 := h2.kept (grown_drewS _ none) (by cases v.ownBlock <;> simp)
  refine h3.kept (grownBy_putObj' _ D (.deferred none)) ?_
  rcases h3.2 with ⟨rfl, _⟩ | ⟨g, cap, cur, rfl, hB, hg2, _⟩
  · exact .inl rfl
  · refine .inr fun e2 => ?_
    injection e2 with e2
    subst e2
    rw [hg2] at hD
    cases hD
theorem wpListIn_app {F : Fence} {n : Nat} {P : Program} {w : World} {ops : Array Oper} {rest : List Oper} {o : Oper} {a : Act} {Q : Exit → Act → World → Prop} (hg : o.guard = none) (s x : Operand) (t : TypeId)
    (hop : o.op = Op.call { callee := Callee.builtin Builtin.append, args := #[s, x], argTypes := #[t, t] }) (v sv v' : Value) (w' : World) (hs : a.eval s = v) (hx : a.eval x = sv)
    (hrun : (Builtin.append_ #[t, t] o.type #[v, sv]).run P w = .ok v' w') (hK : wpListIn F n P ops Q rest (a.put o.dst v') w') : wpListIn F n P ops Q (o :: rest) a w := by
  refine wpListIn_plain hg fun K hK' => ?_
  unfold Oper.wpIn
  refine ⟨?_, ?_⟩
  · simp [Oper.about, hop, resolve, Target.leads, Sem.run_pure]
  · rw [Oper.semAt_plain F _ _ (by rw [hop]; intro c hc'; cases hc')]
    simp [execOp, hop, resolve, invoke, builtin, hs, hx, hrun, Result.andThen]
    exact hK' _ _ hK
theorem info5 : (Try.prog.info? 5).map (fun i => (i.zero, i.size, i.bytes)) = some (some (.int .u8 0), 1, 1) := by kernel_rfl
/-- append(out, x) of one cell, to a row that is one's own. -/
theorem run_app1 {w : World} {base : Nat} {t ty e : TypeId} {i : TypeInfo} {z : Value} {size bytes : Nat} (ht : Try.prog.underlying t = some (.slice e)) (hi : Try.prog.info? e = some i) (hz : i.zero = some z)
    (hsize : i.size = size) (hby : i.bytes = bytes) (hzs : z.cells.size = size) (hsz : 0 < size) {v : Value} {n : Nat} {xs : List Value} (hown : w.ownsRow base e size v n xs)
    {K : Nat} {cs : List Value} {te : TypeId} (hK : w.heap[K]? = some (.cells cs.toArray te (0, 0))) (hl : cs.length = size) (h1 : ∀ u ∈ cs, u.oneCell' = true) (h63 : n + 1 ≤ maxLen) (hbytes : (n + 1) * bytes ≤ 140737488355328) (hbase : base ≤ w.heap.size) :
    ∃ v' w', (Builtin.append_ #[t, t] ty #[v, .slice (some ⟨K, 0, none⟩) 1 1]).run Try.prog w = .ok v' w' ∧ w'.ownsRow base e size v' (n + 1) (xs ++ cs) ∧ w.grownBy w' v.ownBlock ∧ (v'.ownBlock = v.ownBlock ∨ v'.ownBlock = some w.heap.size) :=
  run_app base t ty e i z size bytes ht hi hz hsize hby hzs hsz v n xs hown (some ⟨K, 0, none⟩) 1 1 cs (fun h => by cases h) (by omega)
    (fun _ => ⟨K, 0, rfl, fun j u hj => by rw [Nat.zero_add]; exact hp_cell hK (by rw [List.getElem?_toArray]; exact hj)⟩) h1 h63 hbytes hbase
theorem lit_int_inj {x y : Int} (h : (DataW.lit (.int .i64 x) : DataW Unit) = .lit (.int .i64 y)) : x = y := by injection h with h; injection h
theorem zeroE (w : World) : (zeroValue 3).run Try.prog w = .ok (.int .i64 0) w := by kernel_rfl
def Boxed2 (W : World) (b : Nat) (t : TypeId) (x y : Value) : Prop := W.heap[b]? = some (.cells #[x, y] t (0, 0))
theorem results_c2t {fn : Func} {p u x : Tmp} {ty : TypeId} (h : fn.results = #[.cell p ty, .tmp u, .tmp x]) (tmps : Array Value) (P : Program) (w : World) :
    (results fn tmps).run P w =
      ((asAddr (tmps.getD p undef)).run P w).andThen fun a w₁ => ((loadVar ty a).run P w₁).andThen fun v w₂ => .ok (.tuple #[v, tmps.getD u undef, tmps.getD x undef]) w₂ := by
  simp only [results, h]
  simp [Sem.run_bind, Result.andThen]
theorem hp_put {W : World} {D b : Nat} {o o' : Obj} (h : W.heap[b]? = some o') (hne : b ≠ D) : (W.putObj D o).heap[b]? = some o' := (World.putObj_heap_other (by omega)).trans h
set_option maxRecDepth 100000 in
set_option maxHeartbeats 2000000 in
theorem make_yes (a b : Int) (bk off cap : Nat) (c : Nat → Nat) (hc : ∀ i, c i < 65536) (N : Nat) (ha : In64 a) (hb : In64 b) (hfit : fitsB a b (4 * N) c 2 = true) (hN1 : 1 ≤ N) (hN2 : N ≤ 16384) (hcap : 4 * N ≤ cap) (hmax : cap ≤ maxLen)
    (w : World) (hbk : bk < w.heap.size) (hcells : ∀ j, j < 4 * N → w.cell? ⟨bk, off + j, none⟩ = some (.int .u16 (c j : Nat))) :
    Calls Try.prog 19 #[.agg #[.int .i64 a, .int .i64 b, .slice (some ⟨bk, off, none⟩) (4 * N) cap]] w fun e w' => makeOk c N w e w' ∧ Below w.heap.size w w' := by
  refine (callsIn_wide (n := 6)).1 ?_
  have hmm := @run_makeMap Try.prog
  refine callsIn_of_wp_marks Try.func19 rfl trivial ?_ rfl
  simp only [Try.ntmps19, List.size_toArray, List.length_cons, List.length_nil, Nat.reduceAdd, Nat.reduceSub, Array.replicate_succ, Array.replicate_zero, List.push_toArray, List.append_toArray, List.nil_append, List.cons_append]
  gi_wp2
  refine ⟨trivial, ?_⟩
  obtain ⟨q0, q1, q2, q3⟩ := two_boxes w #[.int .i64 a, .int .i64 b, .slice (some ⟨bk, off, none⟩) (4 * N) cap] #[.slice none 0 0, .int .i64 0] 27 52
  have hP : Pix w (some ⟨bk, off, none⟩) (4 * N) c := fun _ => ⟨bk, off, rfl, hbk, hcells⟩
  refine (callsIn_wide.2 (fits_prog a b _ (4 * N) cap c 2 hc ha hb (by unfold In64; omega) hcap hmax _ (hP.below q3))).mono ?_
  rintro e w2 ⟨rfl, hB2⟩
  rw [hfit]
  have hS := hB2.size
  rw [q0] at hB2 hS
  have r1 := hp_below q1 hB2 (by omega)
  have r2 := hp_below q2 hB2 (by omega)
  have hBw := q3.trans (hB2.mono (by omega))
  have k0 := hp_cell (j := 2) (hp_alloc (.cells #[.slice none 0 0] 32) (hp_alloc (.cells #[.map (some (w2.heap.size + 1))] 74) (hp_alloc (.map #[] 0) (hp_alloc (.cells #[.slice none 0 0, .int .i64 (-1)] 52) r1)))) rfl
  clear q0 q1 q2 q3 hB2
  gi_wp2
  refine ⟨trivial, ?_⟩
  refine (chunk_in Fence.wide _ trivial rfl _ _ _ _).mono ?_
  rintro e w3 ⟨rfl, rfl⟩
  gi_wp2
  have hI : MJ w2 w2.heap.size [] ((((((w2.alloc (.cells #[.slice none 0 0, .int .i64 (-1)] 52)).alloc (.map #[] 0)).alloc (.cells #[.map (some (w2.heap.size + 1))] 74)).alloc (.cells #[.slice none 0 0] 32)).alloc (.cells #[.slice (some ⟨bk, off, none⟩) (4 * N) cap] 25)).alloc (.cells #[.int .i64 4] 3)) := by
    have h1 := hp_new0 w2 (.cells #[.slice none 0 0, .int .i64 (-1)] 52)
    have h2 := World.ownsMap_made (w2.alloc (.cells #[.slice none 0 0, .int .i64 (-1)] 52)) Try.prog 41 (plainElem (H := Unit) Try.prog 3)
    have h3 := hp_new0 ((w2.alloc (.cells #[.slice none 0 0, .int .i64 (-1)] 52)).alloc (.map #[] 0)) (.cells #[.map (some (w2.heap.size + 1))] 74)
    have h4 := hp_new0 (((w2.alloc (.cells #[.slice none 0 0, .int .i64 (-1)] 52)).alloc (.map #[] 0)).alloc (.cells #[.map (some (w2.heap.size + 1))] 74)) (.cells #[.slice none 0 0] 32)
    simp only [World.size_alloc] at h2 h3 h4
    exact ⟨_, _, _, hp_alloc _ (hp_alloc _ (hp_alloc _ (hp_alloc _ (hp_alloc _ h1)))), hp_alloc _ (hp_alloc _ (hp_alloc _ h3)), hp_alloc _ (hp_alloc _ h4), (((h2.alloc _).alloc _).alloc _).alloc _, mapIs_nil, World.ownsRow_nil _ _ _ _, World.ownsRow_nil _ _ _ _, .inl rfl,
      ((((((Below.refl _ w2).alloc (Nat.le_refl _) _).alloc (by simp) _).alloc (by simp; omega) _).alloc (by simp; omega) _).alloc (by simp; omega) _).alloc (by simp; omega) _, by simp [World.size_alloc]⟩
  have hb4 := Boxed.new ((((w2.alloc (.cells #[.slice none 0 0, .int .i64 (-1)] 52)).alloc (.map #[] 0)).alloc (.cells #[.map (some (w2.heap.size + 1))] 74)).alloc (.cells #[.slice none 0 0] 32)) 25 (.slice (some ⟨bk, off, none⟩) (4 * N) cap)
  have hb5 := Boxed.new (((((w2.alloc (.cells #[.slice none 0 0, .int .i64 (-1)] 52)).alloc (.map #[] 0)).alloc (.cells #[.map (some (w2.heap.size + 1))] 74)).alloc (.cells #[.slice none 0 0] 32)).alloc (.cells #[.slice (some ⟨bk, off, none⟩) (4 * N) cap] 25)) 3 (.int .i64 4)
  simp only [World.size_alloc] at hb4 hb5
  have hI2 := hb4.alloc (.cells #[.int .i64 4] 3)
  have hI4 : ((((((w2.alloc (.cells #[.slice none 0 0, .int .i64 (-1)] 52)).alloc (.map #[] 0)).alloc (.cells #[.map (some (w2.heap.size + 1))] 74)).alloc (.cells #[.slice none 0 0] 32)).alloc (.cells #[.slice (some ⟨bk, off, none⟩) (4 * N) cap] 25)).alloc (.cells #[.int .i64 4] 3)).heap.size = w2.heap.size + 6 := by simp [World.size_alloc]
  clear hb4 k0 hP
  have hS0 := hS
  generalize hmS : w2.heap.size = m at *
  generalize ((((((w2.alloc (.cells #[.slice none 0 0, .int .i64 (-1)] 52)).alloc (.map #[] 0)).alloc (.cells #[.map (some (m + 1))] 74)).alloc (.cells #[.slice none 0 0] 32)).alloc (.cells #[.slice (some ⟨bk, off, none⟩) (4 * N) cap] 25)).alloc (.cells #[.int .i64 4] 3)) = w0 at *
  have hbw : ∀ W, Below m w2 W → Below w.heap.size w W := fun W h => hBw.trans (h.mono (by omega))
  refine wpIn_rangeFunc_ownG rfl (by omega) (gf := 59) (lb := #[.pointer (some ⟨m + 1 + 1 + 1 + 1, 0, none⟩), .pointer (some ⟨m + 1 + 1 + 1 + 1 + 1, 0, none⟩)]) rfl trivial (enters_of Try.func59 (by kernel_rfl) rfl)
    (chunk_stops Fence.wide _ trivial rfl (by omega) (m + 1 + 1 + 1 + 1) (m + 1 + 1 + 1 + 1 + 1) m bk off (4 * N) cap N rfl hcap hmax w0 (by omega) (by omega) hI2.cell hb5.cell) kpC_trans (kpC_b (n := w0.heap.size) (by omega) (by omega) (by omega)) (Below.refl _ _) (fun _ => rfl)
    (fun pre W => MJ w2 m (pre.map (fun x => p4 c x.1)) W)
    (fun cd pre W => False)
    (fun s A B row hs hg hr => by
      obtain ⟨v, u, D, h⟩ := hs
      exact ⟨v, u, D, h.others hg (fun r e => by have := hr r e; rw [hI4] at this; exact this)⟩)
    (fun cd s A B row hs hg hr => hs)
    hI
    (fun x => { tmps := #[.agg #[.int .i64 a, .int .i64 b, .slice (some ⟨bk, off, none⟩) (4 * N) cap], .pointer (some ⟨w.heap.size, 0, none⟩), .pointer (some ⟨w.heap.size + 1, 0, none⟩), .slice none 0 0, .bool false, .pointer (some ⟨m, 0, none⟩), .pointer (some ⟨m + 1 + 1, 0, none⟩), .pointer (some ⟨m + 1 + 1 + 1, 0, none⟩),
      .slice (some ⟨bk, off + 4 * x.1, none⟩) 4 4, undef, undef, undef, .agg #[.int .i64 a, .int .i64 b, .slice (some ⟨bk, off, none⟩) (4 * N) cap], .bool true, .bool false, undef, .agg #[.slice none 0 0, .int .i64 (-1)], .map (some (m + 1)), .pointer (some ⟨w.heap.size, 2, none⟩), .slice (some ⟨bk, off, none⟩) (4 * N) cap,
      .func (.func 59) #[] #[.pointer (some ⟨m + 1 + 1 + 1 + 1, 0, none⟩), .pointer (some ⟨m + 1 + 1 + 1 + 1 + 1, 0, none⟩)], .slice (some ⟨bk, off + 4 * x.1, none⟩) 4 4,
      undef, undef, undef, undef, undef, undef, undef, undef, undef, undef, undef, undef, undef, undef, undef, undef, undef, undef, undef, undef, undef, undef, undef, undef, undef, undef, undef, undef, undef, undef, undef, undef, undef, undef, undef], defers := [] }) ?assign ?body ?done ?stop
  case assign =>
    intro l x W K hK
    gi_wp2
    exact hK
  case stop => intro D cd pre W _ _ h; exact h.elim
  case body =>
    rintro l pre x W ⟨v, u, D, hS⟩ hlt
    have hBB := hbw W hS.below
    have c0 : W.cell? ⟨bk, off + 4 * x.1, none⟩ = some (.int .u16 (c (4 * x.1) : Nat)) := (hBB.cell (p := ⟨bk, off + 4 * x.1, none⟩) hbk).trans (hcells (4 * x.1) (by omega))
    have c1 : W.cell? ⟨bk, off + 4 * x.1 + 1, none⟩ = some (.int .u16 (c (4 * x.1 + 1) : Nat)) := (hBB.cell (p := ⟨bk, off + 4 * x.1 + 1, none⟩) hbk).trans (by have := hcells (4 * x.1 + 1) (by omega); rwa [← Nat.add_assoc] at this)
    have c2 : W.cell? ⟨bk, off + 4 * x.1 + 2, none⟩ = some (.int .u16 (c (4 * x.1 + 2) : Nat)) := (hBB.cell (p := ⟨bk, off + 4 * x.1 + 2, none⟩) hbk).trans (by have := hcells (4 * x.1 + 2) (by omega); rwa [← Nat.add_assoc] at this)
    have c3 : W.cell? ⟨bk, off + 4 * x.1 + 3, none⟩ = some (.int .u16 (c (4 * x.1 + 3) : Nat)) := (hBB.cell (p := ⟨bk, off + 4 * x.1 + 3, none⟩) hbk).trans (by have := hcells (4 * x.1 + 3) (by omega); rwa [← Nat.add_assoc] at this)
    have hat : ∀ W, (Instr.arrayAt 41 (.slice (some ⟨bk, off + 4 * x.1, none⟩) 4 4)).run Try.prog W = .ok (.pointer (some ⟨bk, off + 4 * x.1, none⟩)) W := fun W => by kernel_rfl
    have hmx : Try.prog.follows .mixedOrders = true := by kernel_rfl
    have hsz := hS.size
    have hp4 : p4 c x.1 = (c (4 * x.1), c (4 * x.1 + 1), c (4 * x.1 + 2), c (4 * x.1 + 3)) := rfl
    have hw4 := w4_p4 hc x.1
    have hS1 := hS.alloc (.cells #[.int .u16 (c (4 * x.1) : Nat), .int .u16 (c (4 * x.1 + 1) : Nat), .int .u16 (c (4 * x.1 + 2) : Nat), .int .u16 (c (4 * x.1 + 3) : Nat)] 41)
    have hR1 := (RK.refl m W).alloc hsz (.cells #[.int .u16 (c (4 * x.1) : Nat), .int .u16 (c (4 * x.1 + 1) : Nat), .int .u16 (c (4 * x.1 + 2) : Nat), .int .u16 (c (4 * x.1 + 3) : Nat)] 41)
    have cb := hp_new0 W (.cells #[.int .u16 (c (4 * x.1) : Nat), .int .u16 (c (4 * x.1 + 1) : Nat), .int .u16 (c (4 * x.1 + 2) : Nat), .int .u16 (c (4 * x.1 + 3) : Nat)] 41)
    have b0 := hp_cell (j := 0) hS1.mb rfl
    obtain ⟨p, hp⟩ : ∃ p, p4 c x.1 = p := ⟨_, rfl⟩
    have HP := Lib.hid hp
    have hkey := key_px c hc x.1
    rw [kl_p4, hp] at hkey
    have HS1 := Lib.hid hS1
    have HR1 := Lib.hid hR1
    have hR1' := hR1
    have HW4 := Lib.hid hw4
    have hze := zeroE
    clear hp4 hp hw4 hBB hR1
    have hlen : pre.length ≤ 16384 := by omega
    have hll : (pre.map (fun x => p4 c x.1)).length = pre.length := by simp
    have hul : (uni (pre.map (fun x => p4 c x.1))).length ≤ pre.length := by have := uni_len (pre.map (fun x => p4 c x.1)); omega
    have hpn : (pre ++ [x]).map (fun x => p4 c x.1) = pre.map (fun x => p4 c x.1) ++ [p] := by rw [List.map_append, List.map_cons, List.map_nil, HP.out]
    have HPN := Lib.hid hpn
    clear hpn
    generalize hlv : pre.map (fun x => p4 c x.1) = l at *
    have HLV := Lib.hid hlv
    clear hlv
    by_cases hin : p ∈ uni l
    · have hhas : Maps.has D (klP p) = true := by rw [(hS.mis.2 p (by rw [← HP.out]; exact HW4.out)).1]; simp [hin]
      have hatk := (hS.mis.2 p (by rw [← HP.out]; exact HW4.out)).2 hin
      have HATK := Lib.hid hatk
      have hidx : (uni l).idxOf p < 16384 := by have := List.idxOf_lt_length_of_mem hin; omega
      generalize hki : (uni l).idxOf p = k at *
      have HKI := Lib.hid hki
      have HIN := Lib.hid hin
      clear hki hin hatk
      have i0 := hp_cell (j := 0) hS1.ib rfl
      have hkb : ((k % 256 : Nat) : Int) = (k : Int) % 256 := by omega
      have hS2 := hS1.alloc (.cells #[.int .u8 ((k : Int) % 256)] 5)
      have hR2 := HR1.out.alloc hsz (.cells #[.int .u8 ((k : Int) % 256)] 5)
      have hK0 := hp_new0 (W.alloc (.cells #[.int .u16 (c (4 * x.1) : Nat), .int .u16 (c (4 * x.1 + 1) : Nat), .int .u16 (c (4 * x.1 + 2) : Nat), .int .u16 (c (4 * x.1 + 3) : Nat)] 41)) (.cells #[.int .u8 ((k : Int) % 256)] 5)
      rw [World.size_alloc] at hK0
      have hpl : (placesL l).length = l.length := placesL_len l
      obtain ⟨i5, hi5, hz50, hz51, hz52⟩ := info_parts info5
      obtain ⟨u2, W2, hrun, hown2, hgr2, hat2⟩ := run_app1 (ty := 32) Try.underlying32 hi5 hz50 hz51 hz52 rfl (by omega) hS2.ru (cs := [.int .u8 ((k : Int) % 256)]) hK0 rfl (by intro y hy; simp at hy; subst hy; rfl) (by unfold maxLen; omega) (by omega) (by simp [World.size_alloc]; omega)
      have hS3 := hS2.stepIdx (k := k) hgr2 (by rw [hkb]; exact hown2) hat2
      have hR3 := (hR2.app hsz hS2.ru hgr2).set hsz (K := m + 1 + 1 + 1) (by omega) 0 u2
      have hib2 := hp_cell (j := 0) ((hgr2.block _ (lt_heap hS2.ib) (fun e => by have := (hS2.ru.lt _ e.symm).1; omega)).trans hS2.ib) rfl
      obtain ⟨_, Au, cu, rfl, _, _, _⟩ := Sl.of_own hown2
      have hJ : MJ w2 m (l ++ [p]) _ := ⟨v, _, D, by
        have e1 : uni (l ++ [p]) = uni l := by rw [uni_snoc, if_pos HIN.out]
        rw [e1, placesL_snoc, HKI.out, List.length_append]
        exact ⟨hS3.pb, hS3.mb, hS3.ib, hS3.own.mono (by omega), hS3.mis, hS3.rv, hS3.ru, hS3.ne, hS3.below, hS3.size⟩⟩
      have hfi : ∀ j, W2.frozen? ⟨m + 1 + 1 + 1, j, none⟩ = false := fun j => by simp [World.frozen?, (hgr2.block _ (lt_heap hS2.ib) (fun e => by have := (hS2.ru.lt _ e.symm).1; omega)).trans hS2.ib]
      have HJ := Lib.hid hJ
      have HR3 := Lib.hid hR3
      clear hS1 hS2 hR2 hS3 hR3 hK0 hown2 hgr2 hat2 hkb hpl hJ
      gi_wp2_with (first | (gi_at_builtin; refine wpListIn_app rfl _ _ 32 rfl _ _ _ W2 rfl rfl hrun ?_) | gi_at_lookup; refine wpListIn_lookup_own_ok_int _ rfl _ _ 74 rfl 41 3 .i64 keyed41 Try.underlying74 Try.underlying3 (hze _) (m + 1) _ D rfl HS1.out.own (px c x.1) _ rfl hkey ?_; intro cv0 hatc hwc; rw [hhas]; obtain rfl := lit_int_inj (HATK.out.symm.trans hatc))
      refine ⟨by rw [hI4]; exact HR3.out.1, HR3.out.2.1, ?_⟩
      show MJ w2 m ((pre ++ [x]).map (fun x => p4 c x.1)) _
      rw [HPN.out]
      exact HJ.out
    · have hhas : Maps.has D (klP p) = false := by rw [(hS.mis.2 p (by rw [← HP.out]; exact HW4.out)).1]; simp [hin]
      have HNI := Lib.hid hin
      obtain ⟨i41, hi41, hz410, hz411, hz412⟩ := info_parts info41
      obtain ⟨i5, hi5, hz50, hz51, hz52⟩ := info_parts info5
      obtain ⟨_, Av, cv, rfl, _, _, _⟩ := Sl.of_own hS1.rv
      have hvK : ∀ g, Value.ownBlock (.slice Av (uni l).length cv) = some g → g < W.heap.size := fun g hg => (hS.rv.lt g hg).2
      obtain ⟨Wm, hrunm, hownm, hgrm⟩ := World.ownsMap.update (val := .int .i64 ((uni l).length : Nat)) hS1.own keyed41 Try.underlying74 (by unfold maxLen; omega) hkey (plainElem_int Try.underlying3 (WalkArith.wf_i64 (by omega)))
      simp only [px] at hrunm
      have hSm := hS1.stepMap (by rw [← HP.out]; exact HW4.out) hin hgrm hownm
      have hRm := hR1'.map hsz hgrm
      have bCm := (hgrm.block _ (lt_heap cb) (fun e => by injection e; omega)).trans cb
      have hSa := hSm.alloc (Obj.cells #[.int .u16 (c (4 * x.1) : Nat), .int .u16 (c (4 * x.1 + 1) : Nat), .int .u16 (c (4 * x.1 + 2) : Nat), .int .u16 (c (4 * x.1 + 3) : Nat)] 41)
      have hRa := hRm.alloc hsz (Obj.cells #[.int .u16 (c (4 * x.1) : Nat), .int .u16 (c (4 * x.1 + 1) : Nat), .int .u16 (c (4 * x.1 + 2) : Nat), .int .u16 (c (4 * x.1 + 3) : Nat)] 41)
      have bCa := hp_alloc (Obj.cells #[.int .u16 (c (4 * x.1) : Nat), .int .u16 (c (4 * x.1 + 1) : Nat), .int .u16 (c (4 * x.1 + 2) : Nat), .int .u16 (c (4 * x.1 + 3) : Nat)] 41) bCm
      have bN := hp_new0 Wm (Obj.cells #[.int .u16 (c (4 * x.1) : Nat), .int .u16 (c (4 * x.1 + 1) : Nat), .int .u16 (c (4 * x.1 + 2) : Nat), .int .u16 (c (4 * x.1 + 3) : Nat)] 41)
      obtain ⟨v2, Wv, hrunv, hownv, hgrv, hatv⟩ := run_app1 (ty := 42) Try.underlying42 hi41 hz410 hz411 hz412 rfl (by omega) hSa.rv (cs := cP p) (show _ = some (Obj.cells (cP p).toArray 41 (0, 0)) by rw [← HP.out]; exact bN) rfl (cP_one p) (by unfold maxLen; omega) (by omega) (by simp [World.size_alloc]; have := hSm.size; omega)
      have hSv := hSa.stepCol (p := p) hgrv hownv hatv
      have hRv := (hRa.app hsz hSa.rv hgrv).set hsz (K := m) (by omega) 0 v2
      have bCv := (hgrv.block _ (lt_heap bCa) (fun e => by have := hvK _ e.symm; omega)).trans bCa
      have bC3 := ((grown_set Wv m 0 v2).block _ (lt_heap bCv) (fun e => by injection e; omega)).trans bCv
      obtain ⟨_, Av2, cv2, rfl, _, _, _⟩ := Sl.of_own hownv
      have hul2 : (uni l ++ [p]).length = (uni l).length + 1 := by simp
      have hE := fun W => run_eq_zero (p4 c x.1) W
      have hk16 : (uni l).length ≤ 16384 := by omega
      have hkb : (((uni l).length % 256 : Nat) : Int) = ((uni l).length : Int) % 256 := by omega
      have z0 := hp_cell (j := 0) hS1.pb rfl
      have y0 := hp_cell (j := 0) hSm.mb rfl
      have z1 := hp_cell (j := 0) hSm.pb rfl
      have x0 := hp_cell (j := 0) hSa.pb rfl
      have e0 := hp_cell (j := 0) bCm rfl
      have e1 := hp_cell (j := 1) bCm rfl
      have e2 := hp_cell (j := 2) bCm rfl
      have e3 := hp_cell (j := 3) bCm rfl
      have pbv := (hgrv.block _ (lt_heap hSa.pb) (fun e => by have := (hSa.rv.lt _ e.symm).1; omega)).trans hSa.pb
      have w0' := hp_cell (j := 0) pbv rfl
      have w1' := hp_cell (j := 1) pbv rfl
      have wf0 : ∀ j, Wv.frozen? ⟨m, j, none⟩ = false := fun j => by simp [World.frozen?, pbv]
      have g0 : ∀ y, (Wv.setCell ⟨m, 0, none⟩ y).heap[W.heap.size]? = some (Obj.cells #[.int .u16 (c (4 * x.1) : Nat), .int .u16 (c (4 * x.1 + 1) : Nat), .int .u16 (c (4 * x.1 + 2) : Nat), .int .u16 (c (4 * x.1 + 3) : Nat)] 41 (0, 0)) := fun y => ((grown_set Wv m 0 y).block _ (lt_heap bCv) (fun e => by injection e; omega)).trans bCv
      have d0 := hp_cell (j := 0) (g0 (.slice Av2 ((uni l).length + 1) cv2)) rfl
      have d1 := hp_cell (j := 1) (g0 (.slice Av2 ((uni l).length + 1) cv2)) rfl
      have d2 := hp_cell (j := 2) (g0 (.slice Av2 ((uni l).length + 1) cv2)) rfl
      have d3 := hp_cell (j := 3) (g0 (.slice Av2 ((uni l).length + 1) cv2)) rfl
      have HSv := Lib.hid hSv
      have HRv := Lib.hid hRv
      have HS1' := HS1
      clear hS1 hSm hRm bCm hSa hRa bCa bN hownv hgrv hatv hSv hRv bCv bC3 pbv g0 hownm hgrm
      by_cases hz : p4 c x.1 = (0, 0, 0, 0)
      · rw [show decide (p4 c x.1 = (0, 0, 0, 0)) = true from by simp [hz]] at hE
        simp only [p4] at hE
        have HZ := Lib.hid hz
        clear hz
        obtain ⟨S3, hS3, hSz⟩ : ∃ S3, S3 = (Wv.setCell ⟨m, 0, none⟩ (.slice Av2 ((uni l).length + 1) cv2)).setCell ⟨m, 1, none⟩ (.int .i64 ((uni l).length : Nat)) ∧ S3.heap.size = Wv.heap.size := ⟨_, rfl, by simp [World.setCell]⟩
        have hSv := HSv.out.stepClear ((uni l).length : Nat)
        have hRv := HRv.out.set hsz (K := m) (by omega) 1 (.int .i64 ((uni l).length : Nat))
        rw [← hS3] at hSv hRv
        have hSb := hSv.alloc (Obj.cells #[.int .u8 (((uni l).length : Int) % 256)] 5)
        have hRb := hRv.alloc hsz (Obj.cells #[.int .u8 (((uni l).length : Int) % 256)] 5)
        have hK1 := hp_new0 S3 (Obj.cells #[.int .u8 (((uni l).length : Int) % 256)] 5)
        have hpl : (placesL l).length = l.length := placesL_len l
        obtain ⟨u2, W5, hrun, hown2, hgr2, hat2⟩ := run_app1 (ty := 32) Try.underlying32 hi5 hz50 hz51 hz52 rfl (by omega) hSb.ru (cs := [.int .u8 (((uni l).length : Int) % 256)]) hK1 rfl (by intro y hy; simp at hy; subst hy; rfl) (by unfold maxLen; omega) (by omega) (by simp [World.size_alloc]; have := hSv.size; omega)
        have hSi := hSb.stepIdx (k := (uni l).length) hgr2 (by rw [hkb]; exact hown2) hat2
        have hRi := (hRb.app hsz hSb.ru hgr2).set hsz (K := m + 1 + 1 + 1) (by omega) 0 u2
        have ibW := (hgr2.block _ (lt_heap hSb.ib) (fun e => by have := (hSb.ru.lt _ e.symm).1; omega)).trans hSb.ib
        obtain ⟨_, Au, cu, rfl, _, _, _⟩ := Sl.of_own hown2
        have s0 := hp_cell (j := 0) hSv.ib rfl
        have sf := hp_cell (j := 0) ibW rfl
        have hfi : ∀ j, W5.frozen? ⟨m + 1 + 1 + 1, j, none⟩ = false := fun j => by simp [World.frozen?, ibW]
        rw [hSz] at hrun
        rw [hS3] at hrun s0
        have HSi := Lib.hid hSi
        have HRi := Lib.hid hRi
        clear hSv hRv hSb hRb hK1 hpl hown2 hgr2 hat2 hSi hRi ibW hS3 hSz
        gi_wp2_with (first | (gi_at_builtin; refine wpListIn_app rfl _ _ 42 rfl _ _ _ Wv rfl rfl hrunv ?_) | (gi_at_builtin; refine wpListIn_app rfl _ _ 32 rfl _ _ _ W5 rfl rfl hrun ?_) | gi_at_lookup; refine wpListIn_lookup_own_ok_int _ rfl _ _ 74 rfl 41 3 .i64 keyed41 Try.underlying74 Try.underlying3 (hze _) (m + 1) _ D rfl HS1.out.own (px c x.1) _ rfl hkey ?_; intro cv0 hatc hwc; rw [hhas])
        refine ⟨by rw [hI4]; exact HRi.out.1, HRi.out.2.1, ?_⟩
        show MJ w2 m ((pre ++ [x]).map (fun x => p4 c x.1)) _
        rw [HPN.out]
        exact ⟨_, _, _, by
          have e1 : uni (l ++ [p]) = uni l ++ [p] := by rw [uni_snoc, if_neg HNI.out]
          have e2 : clearIx (uni l ++ [p]) = ((uni l).length : Nat) := clearIx_eq (by rw [← HP.out]; exact HZ.out) HNI.out
          have e3 : (uni l).idxOf p = (uni l).length := List.idxOf_eq_length HNI.out
          rw [e1, e2, placesL_snoc, e3, List.length_append]
          exact HSi.out⟩
      · rw [show decide (p4 c x.1 = (0, 0, 0, 0)) = false from by simp [hz]] at hE
        simp only [p4] at hE
        have HZ := Lib.hid hz
        clear hz
        obtain ⟨S3, hS3, hSz⟩ : ∃ S3, S3 = Wv.setCell ⟨m, 0, none⟩ (.slice Av2 ((uni l).length + 1) cv2) ∧ S3.heap.size = Wv.heap.size := ⟨_, rfl, by simp [World.setCell]⟩
        have hSv := HSv.out
        have hRv := HRv.out
        rw [← hS3] at hSv hRv
        have hSb := hSv.alloc (Obj.cells #[.int .u8 (((uni l).length : Int) % 256)] 5)
        have hRb := hRv.alloc hsz (Obj.cells #[.int .u8 (((uni l).length : Int) % 256)] 5)
        have hK1 := hp_new0 S3 (Obj.cells #[.int .u8 (((uni l).length : Int) % 256)] 5)
        have hpl : (placesL l).length = l.length := placesL_len l
        obtain ⟨u2, W5, hrun, hown2, hgr2, hat2⟩ := run_app1 (ty := 32) Try.underlying32 hi5 hz50 hz51 hz52 rfl (by omega) hSb.ru (cs := [.int .u8 (((uni l).length : Int) % 256)]) hK1 rfl (by intro y hy; simp at hy; subst hy; rfl) (by unfold maxLen; omega) (by omega) (by simp [World.size_alloc]; have := hSv.size; omega)
        have hSi := hSb.stepIdx (k := (uni l).length) hgr2 (by rw [hkb]; exact hown2) hat2
        have hRi := (hRb.app hsz hSb.ru hgr2).set hsz (K := m + 1 + 1 + 1) (by omega) 0 u2
        have ibW := (hgr2.block _ (lt_heap hSb.ib) (fun e => by have := (hSb.ru.lt _ e.symm).1; omega)).trans hSb.ib
        obtain ⟨_, Au, cu, rfl, _, _, _⟩ := Sl.of_own hown2
        have s0 := hp_cell (j := 0) hSv.ib rfl
        have sf := hp_cell (j := 0) ibW rfl
        have hfi : ∀ j, W5.frozen? ⟨m + 1 + 1 + 1, j, none⟩ = false := fun j => by simp [World.frozen?, ibW]
        rw [hSz] at hrun
        rw [hS3] at hrun s0
        have HSi := Lib.hid hSi
        have HRi := Lib.hid hRi
        clear hSv hRv hSb hRb hK1 hpl hown2 hgr2 hat2 hSi hRi ibW hS3 hSz
        gi_wp2_with (first | (gi_at_builtin; refine wpListIn_app rfl _ _ 42 rfl _ _ _ Wv rfl rfl hrunv ?_) | (gi_at_builtin; refine wpListIn_app rfl _ _ 32 rfl _ _ _ W5 rfl rfl hrun ?_) | gi_at_lookup; refine wpListIn_lookup_own_ok_int _ rfl _ _ 74 rfl 41 3 .i64 keyed41 Try.underlying74 Try.underlying3 (hze _) (m + 1) _ D rfl HS1.out.own (px c x.1) _ rfl hkey ?_; intro cv0 hatc hwc; rw [hhas])
        refine ⟨by rw [hI4]; exact HRi.out.1, HRi.out.2.1, ?_⟩
        show MJ w2 m ((pre ++ [x]).map (fun x => p4 c x.1)) _
        rw [HPN.out]
        exact ⟨_, _, _, by
          have e1 : uni (l ++ [p]) = uni l ++ [p] := by rw [uni_snoc, if_neg HNI.out]
          have e2 : clearIx (uni l ++ [p]) = clearIx (uni l) := clearIx_ne (by rw [← HP.out]; exact HZ.out)
          have e3 : (uni l).idxOf p = (uni l).length := List.idxOf_eq_length HNI.out
          rw [e1, e2, placesL_snoc, e3, List.length_append]
          exact HSi.out⟩
  case done =>
    rintro D ys W hD hys ⟨v, u, Dm, hS⟩ hK
    have hyk : ys.map (fun x => p4 c x.1) = ll c N := by unfold ll; rw [← hys, List.map_map]; rfl
    have hrv := hS.rv
    have hru := hS.ru
    have hpb := hS.pb
    have hib := hS.ib
    rw [hyk] at hrv hru hpb
    rw [placesL_ll, pl_len] at hru
    rw [show uni (ll c N) = U c N from rfl] at hrv hpb
    obtain ⟨_, Av, cv, rfl, _, _, _⟩ := Sl.of_own hrv
    obtain ⟨_, Au, cu, rfl, _, _, _⟩ := Sl.of_own hru
    have r2' := hp_below r2 hS.below (by omega)
    have v0 := hp_cell (j := 0) hpb rfl
    have v1 := hp_cell (j := 1) hpb rfl
    have u0 := hp_cell (j := 0) hib rfl
    have t0 := hp_cell (j := 0) r2' rfl
    have t1 := hp_cell (j := 1) r2' rfl
    have tf : ∀ j, W.frozen? ⟨w.heap.size + 1, j, none⟩ = false := fun j => by simp [World.frozen?, r2']
    have hB := hbw W hS.below
    have hm2 : w.heap.size + 2 ≤ m := hS0
    have hKW : KeepsOthers W (((W.setCell ⟨w.heap.size + 1, 0, none⟩ (.slice Av (U c N).length cv)).setCell ⟨w.heap.size + 1, 1, none⟩ (.int .i64 (clearIx (U c N)))).drew) := ((KeepsOthers.setCell _ _ _).trans (KeepsOthers.setCell _ _ _)).trans (KeepsOthers.drew _)
    have hK2 := hKW.same D _ hK rfl
    dsimp only
    clear hS hpb hib
    gi_wp2
    gi_region
    gi_wp2
    have s2 : ∀ x y, Boxed2 (((W.setCell ⟨w.heap.size + 1, 0, none⟩ x).setCell ⟨w.heap.size + 1, 1, none⟩ y).drew) (w.heap.size + 1) 52 x y := fun x y => by
      have h1 := heap_set (i := 0) (x := x) r2'
      exact heap_set (i := 1) (x := y) h1
    have s3 := hp_put (D := D) (o := .deferred none) (s2 (.slice Av (U c N).length cv) (.int .i64 (clearIx (U c N)))) (by omega)
    have s3c := hp_cell (j := 0) s3 rfl
    have s3d := hp_cell (j := 1) s3 rfl
    refine ⟨by simp, .inl ⟨_, _, rfl, run_takeDeferred hK2, ?_⟩⟩
    refine ⟨.tuple #[.agg #[.slice Av (U c N).length cv, .int .i64 (clearIx (U c N))], .slice Au N cu, .bool true], ?_, ?_⟩
    · rw [results_c2t rfl]
      go_simp
    · refine ⟨⟨_, _, rfl, own_le' (by omega) (own_end hrv (by omega) hK2), own_le' (by omega) (own_end hru (by omega) hK2)⟩, ?_⟩
      exact (((hB.setCell (p := ⟨w.heap.size + 1, 0, none⟩) (by simp) _).setCell (p := ⟨w.heap.size + 1, 1, none⟩) (by simp) _).drew).trans (belowK_b (w := w0) (by omega) _ D _ _ (by omega) hK2 rfl rfl)

set_option maxRecDepth 100000 in
set_option maxHeartbeats 1000000 in
theorem make_no (a b : Int) (A : Option Addr) (n cap : Nat) (c : Nat → Nat) (hc : ∀ i, c i < 65536) (ha : In64 a) (hb : In64 b) (hfit : fitsB a b n c 2 = false) (hn : n ≤ cap) (hmax : cap ≤ maxLen) (w : World) (hP : Pix w A n c) :
    Calls Try.prog 19 #[.agg #[.int .i64 a, .int .i64 b, .slice A n cap]] w fun e w' => e = .returned (.tuple #[.agg #[.slice none 0 0, .int .i64 0], .slice none 0 0, .bool false]) ∧ Below w.heap.size w w' := by
  obtain ⟨q0, q1, q2, q3⟩ := two_boxes w #[.int .i64 a, .int .i64 b, .slice A n cap] #[.slice none 0 0, .int .i64 0] 27 52
  have HF := Lib.hid hfit
  have HC := Lib.hid hc
  have hPw := hP.below q3
  clear hfit hc hP
  go_enter Try.func19, Try.ntmps19
  go_wp2_with fail
  refine (fits_prog a b A n cap c 2 HC.out ha hb (by unfold In64; omega) hn hmax _ hPw).mono ?_
  rintro e w2 ⟨rfl, hB⟩
  rw [HF.out]
  rw [q0] at hB
  have r2 := hp_below q2 hB (by omega)
  have t0 := hp_cell (j := 0) r2 rfl
  have t1 := hp_cell (j := 1) r2 rfl
  have tf : ∀ j, w2.frozen? ⟨w.heap.size + 1, j, none⟩ = false := fun j => by simp [World.frozen?, r2]
  have HB := Lib.hid (q3.trans (hB.mono (by omega)))
  clear hB q0 q1 q2 q3 r2 hPw
  go_wp2
  refine bodyPost_ret (v := .tuple #[.agg #[.slice none 0 0, .int .i64 0], .slice none 0 0, .bool false]) (by rw [results_c2t rfl]; go_simp) rfl ?_
  exact ⟨rfl, (HB.out.setCell (p := ⟨w.heap.size + 1, 0, none⟩) (by simp) _).setCell (p := ⟨w.heap.size + 1, 1, none⟩) (by simp) _⟩
end Go.Proofs.Ytlgoohhfpmomhaa

namespace Go.Proofs.Ytlgoohhfpmomhaa
set_option maxRecDepth 100000
set_option linter.unusedVariables false
open Go.ChangeShapes Go.WideShapes Go.ChangeAt Go.RowKit

theorem uni_nodup' (l : List P4) : (uni l).Nodup := by
  have h : ∀ (l acc : List P4), acc.Nodup → (l.foldl addP acc).Nodup := by
    intro l
    induction l with
    | nil => intro acc ha; exact ha
    | cons x l ih =>
      intro acc ha
      rw [List.foldl_cons]
      refine ih _ ?_
      unfold addP
      split
      · exact ha
      · rename_i hx
        rw [List.nodup_append]
        refine ⟨ha, by simp, fun a h1 b h2 => ?_⟩
        simp at h2
        subst h2
        intro e
        subst e
        exact hx h1
  exact h l [] (by simp)
theorem clear_take {L : List P4} (hL : L.Nodup) {k : Nat} {q : P4} (hq : L[k]? = some q) : clearIx (L.take (k + 1)) = if q = (0, 0, 0, 0) then (k : Int) else clearIx (L.take k) := by
  have hk := (List.getElem?_eq_some_iff.1 hq).1
  have he := (List.getElem?_eq_some_iff.1 hq).2
  rw [List.take_succ_eq_append_getElem hk, he]
  by_cases hz : q = (0, 0, 0, 0)
  · rw [if_pos hz, clearIx_eq hz]
    · rw [List.length_take]; congr 1; omega
    · intro hm
      obtain ⟨j, hj, e⟩ := List.getElem_of_mem hm
      have hj2 : j < k := by rw [List.length_take] at hj; omega
      rw [List.getElem_take] at e
      have h2 := List.pairwise_iff_getElem.1 hL j k (by omega) hk hj2
      exact h2 (e.trans he.symm)
  · rw [if_neg hz, clearIx_ne hz]

end Go.Proofs.Ytlgoohhfpmomhaa

namespace Go.Proofs.Ytlgoohhfpmomhaa
set_option maxRecDepth 100000
set_option linter.unusedVariables false
open Go.ChangeShapes Go.WideShapes Go.ChangeAt Go.RowKit

theorem in_cases (a b : Int) (n : Nat) (x y : Int) :
    (mayB a b n = false) ∨ (mayB a b n = true ∧ x < 0) ∨ (mayB a b n = true ∧ 0 ≤ x ∧ y < 0) ∨ (mayB a b n = true ∧ 0 ≤ x ∧ 0 ≤ y ∧ a ≤ x) ∨ (mayB a b n = true ∧ 0 ≤ x ∧ 0 ≤ y ∧ x < a ∧ b ≤ y) ∨ (mayB a b n = true ∧ 0 ≤ x ∧ 0 ≤ y ∧ x < a ∧ y < b) := by
  cases mayB a b n
  · exact .inl rfl
  · simp
    omega
/-- The three boxes of At. -/
theorem three_boxes (w : World) (cs c1 c2 : Array Value) (t t1 t2 : TypeId) : let W := ((w.alloc (.cells cs t)).alloc (.cells c1 t1)).alloc (.cells c2 t2)
    W.heap.size = w.heap.size + 3 ∧ W.heap[w.heap.size]? = some (.cells cs t (0, 0)) ∧ W.heap[w.heap.size + 1]? = some (.cells c1 t1 (0, 0)) ∧ W.heap[w.heap.size + 1 + 1]? = some (.cells c2 t2 (0, 0)) ∧ Below w.heap.size w W := by
  intro W
  have h1 := hp_new0 (w.alloc (.cells cs t)) (.cells c1 t1)
  have h2 := hp_new0 ((w.alloc (.cells cs t)).alloc (.cells c1 t1)) (.cells c2 t2)
  simp only [World.size_alloc] at h1 h2
  exact ⟨by simp [W, World.size_alloc], hp_alloc _ (hp_alloc _ (hp_new0 _ _)), hp_alloc _ h1, h2, (((Below.refl _ w).alloc (Nat.le_refl _) _).alloc (by simp) _).alloc (by simp; omega) _⟩

end Go.Proofs.Ytlgoohhfpmomhaa
