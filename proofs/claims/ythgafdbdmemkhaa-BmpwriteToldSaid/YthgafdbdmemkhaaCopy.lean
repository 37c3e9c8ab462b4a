/- Copies: slices.Clone, raster.Copy, engraverref8.Copy. -/
import Derived.Test.YthgafdbdmemkhaaSet
import Derived.Test.YthgafdbdmemkhaaOpen
import Derived.Deep.RegionHeld3
import Derived.Deep.AppendLies
namespace Go.Proofs.Ythgafdbdmemkhaa
set_option linter.unusedVariables false
open Go.ChangeShapes Go.WideShapes Go.ChangeAt Go.RowKit

/-- append to a row of one's own, whatever slice is appended. -/
theorem run_app {P : Program} {w : World} (base : Nat) (t ty e : TypeId) (i : TypeInfo) (z : Value) (size bytes : Nat) (ht : P.underlying t = some (.slice e)) (hi : P.info? e = some i) (hz : i.zero = some z)
    (hsize : i.size = size) (hby : i.bytes = bytes) (hzs : z.cells.size = size) (hsz : 0 < size)
    (v : Value) (n : Nat) (xs : List Value) (hown : w.ownsRow base e size v n xs)
    (A : Option Addr) (m c : Nat) (news : List Value) (hA : A = none → c = 0) (hl : news.length = m * size) (hnews : 0 < m → ∃ b off, A = some ⟨b, off, none⟩ ∧ ∀ j u, news[j]? = some u → w.cell? ⟨b, off + j, none⟩ = some u) (h1 : ∀ u ∈ news, u.oneCell' = true)
    (h63 : n + m ≤ maxLen) (hbytes : (n + m) * bytes ≤ 140737488355328) (hbase : base ≤ w.heap.size) :
    ∃ v' w', (Builtin.append_ #[t, t] ty #[v, .slice A m c]).run P w = .ok v' w' ∧ w'.ownsRow base e size v' (n + m) (xs ++ news) ∧ w.grownBy w' v.ownBlock ∧ (v'.ownBlock = v.ownBlock ∨ v'.ownBlock = some w.heap.size) := by
  cases A with
  | none =>
    have hm : m = 0 := by
      apply Nat.eq_zero_of_not_pos
      intro h
      obtain ⟨b, off, he, _⟩ := hnews h
      cases he
    have hc := hA rfl
    subst hm hc
    have hn : news = [] := List.eq_nil_of_length_eq_zero (by omega)
    subst hn
    exact ⟨v, w, run_append_owned_none w base t ty e i size ht hi v n xs hown, by simpa using hown, ⟨rfl, rfl, rfl, Nat.le_refl _, fun _ _ _ => rfl⟩, .inl rfl⟩
  | some ad =>
    have hcell : ∀ j u, news[j]? = some u → w.cell? (ad.add j) = some u := by
      intro j u hj
      have hm : 0 < m := by
        apply Nat.pos_of_ne_zero
        intro h
        rw [h, Nat.zero_mul] at hl
        rw [List.eq_nil_of_length_eq_zero hl] at hj
        simp at hj
      obtain ⟨b, off, he, hc⟩ := hnews hm
      cases he
      rw [Addr.add_lit]
      exact hc j u hj
    obtain ⟨v', w', g1, g2, g3, _, g5⟩ := run_append_own_at w base t ty e i z size bytes ht hi hz hsize hby hzs hsz v n xs hown ad m c news hl hcell h1 h63 hbytes hbase
    exact ⟨v', w', g1, g2, g3, g5⟩

theorem wpList_app {P : Program} {w : World} {ops : Array Oper} {rest : List Oper} {o : Oper} {a : Act} {Q : Exit → Act → World → Prop} (hgd : o.guard = none) (s x : Operand) (t : TypeId)
    (ho : o.op = .call { callee := .builtin .append, args := #[s, x], argTypes := #[t, t] }) (v sv v' : Value) (w' : World) (hs : a.eval s = v) (hx : a.eval x = sv)
    (hrun : (Builtin.append_ #[t, t] o.type #[v, sv]).run P w = .ok v' w') (h : wpList P ops Q rest (a.put o.dst v') w') : wpList P ops Q (o :: rest) a w := by
  refine wpList_plain hgd fun K hK => ?_
  unfold Oper.wp
  simp [execOp, ho, resolve, invoke, builtin, hs, hx, hrun, Result.andThen]
  exact hK _ _ h
theorem step_app {P : Program} {w : World} {ops : Array Oper} {o : Oper} {a : Act} {K : Act → World → Prop} {Q : Exit → Act → World → Prop} {E : Prop} (hgd : o.guard = none) (s x : Operand) (t : TypeId)
    (ho : o.op = .call { callee := .builtin .append, args := #[s, x], argTypes := #[t, t] }) (v sv v' : Value) (w' : World) (hs : a.eval s = v) (hx : a.eval x = sv)
    (hrun : (Builtin.append_ #[t, t] o.type #[v, sv]).run P w = .ok v' w') (h : K (a.put o.dst v') w') : if Region.wanted o (yielded ops a.tmps) = true then Oper.wp P o a w K Q else E := by
  have hw : Region.wanted o (yielded ops a.tmps) = true := by simp [Region.wanted, hgd]
  rw [if_pos hw]
  unfold Oper.wp
  simp [execOp, ho, resolve, invoke, builtin, hs, hx, hrun, Result.andThen]
  exact h
/-- A picture's samples in a row of one's own. -/
def Own (B : Nat) (w : World) (A : Option Addr) (n : Nat) (c : Nat → Nat) : Prop :=
  0 < n → ∃ g cur, A = some ⟨g, 0, none⟩ ∧ B ≤ g ∧ w.heap[g]? = some (.cells cur 28 (0, 0)) ∧ n ≤ cur.size ∧ ∀ j, j < n → cur[j]? = some (.int .u16 (c j : Nat))
theorem Own.pix {B : Nat} {w : World} {A : Option Addr} {n : Nat} {c : Nat → Nat} (h : Own B w A n c) : Pix w A n c := fun hn => by
  obtain ⟨g, cur, rfl, hB, hg, hs, hc⟩ := h hn
  exact ⟨g, 0, rfl, (Array.getElem?_eq_some_iff.1 hg).1, fun j hj => by rw [Nat.zero_add]; exact hp_cell hg (hc j hj)⟩
theorem Own.below {B : Nat} {w w' : World} {A : Option Addr} {n : Nat} {c : Nat → Nat} (h : Own B w A n c) (hb : Below w.heap.size w w') : Own B w' A n c := fun hn => by
  obtain ⟨g, cur, rfl, hB, hg, hs, hc⟩ := h hn
  exact ⟨g, cur, rfl, hB, hp_below hg hb (Array.getElem?_eq_some_iff.1 hg).1, hs, hc⟩
theorem Own.le {B B' : Nat} {w : World} {A : Option Addr} {n : Nat} {c : Nat → Nat} (h : Own B w A n c) (hb : B' ≤ B) : Own B' w A n c := fun hn => by
  obtain ⟨g, cur, rfl, hB, hg, hs, hc⟩ := h hn
  exact ⟨g, cur, rfl, Nat.le_trans hb hB, hg, hs, hc⟩
/-- Another block is written. -/
theorem Own.grown {B : Nat} {w w' : World} {A : Option Addr} {n : Nat} {c : Nat → Nat} {g : Nat} (h : Own B w A n c) (hg : w.grownBy w' (some g)) (hne : ∀ k, A = some ⟨k, 0, none⟩ → k ≠ g) : Own B w' A n c := fun hn => by
  obtain ⟨k, cur, rfl, hB, hk, hs, hc⟩ := h hn
  exact ⟨k, cur, rfl, hB, (hg.block k (Array.getElem?_eq_some_iff.1 hk).1 (fun e => by injection e with e; exact hne k rfl e)).trans hk, hs, hc⟩
theorem Own.set {B : Nat} {w : World} {A : Option Addr} {n : Nat} {c : Nat → Nat} {g : Nat} (h : Own B w A n c) (hg : g < B) (i : Nat) (v : Value) : Own B (w.setCell ⟨g, i, none⟩ v) A n c := fun hn => by
  obtain ⟨k, cur, rfl, hB, hk, hs, hc⟩ := h hn
  exact ⟨k, cur, rfl, hB, ((grown_set w g i v).block k (Array.getElem?_eq_some_iff.1 hk).1 (fun e => by injection e; omega)).trans hk, hs, hc⟩
theorem Own.lt {B : Nat} {w : World} {A : Option Addr} {n : Nat} {c : Nat → Nat} (h : Own B w A n c) : ∀ k, 0 < n → A = some ⟨k, 0, none⟩ → B ≤ k ∧ k < w.heap.size := fun k hn he => by
  obtain ⟨g, cur, h1, hB, hg, _⟩ := h hn
  rw [he] at h1
  injection h1 with h1
  injection h1 with h1
  subst h1
  exact ⟨hB, (Array.getElem?_eq_some_iff.1 hg).1⟩
theorem Own.frame {B : Nat} {w w' : World} {A A' : Option Addr} {n m : Nat} {c : Nat → Nat} (h : Own B w A n c) (hfr : ∀ g o, w.heap[g]? = some o → (∀ k, 0 < m → A' = some ⟨k, 0, none⟩ → k ≠ g) → w'.heap[g]? = some o)
    (hne : ∀ g k, A = some ⟨g, 0, none⟩ → 0 < n → 0 < m → A' = some ⟨k, 0, none⟩ → k ≠ g) : Own B w' A n c := fun hn => by
  obtain ⟨g, cur, rfl, hB, hg, hs, hcl⟩ := h hn
  exact ⟨g, cur, rfl, hB, hfr g _ hg (fun k hm he => hne g k rfl hn hm he), hs, hcl⟩

def cells16 (n : Nat) (c : Nat → Nat) : List Value := (List.range n).map fun j => .int .u16 (c j : Nat)
theorem cells16_get (n : Nat) (c : Nat → Nat) (j : Nat) (hj : j < n) : (cells16 n c)[j]? = some (.int .u16 (c j : Nat)) := by simp [cells16, hj]
theorem cells16_one (n : Nat) (c : Nat → Nat) : ∀ u ∈ cells16 n c, u.oneCell' = true := by
  intro u hu
  obtain ⟨j, _, rfl⟩ := List.mem_map.1 hu
  rfl
theorem Own.of_row {B : Nat} {w : World} {n : Nat} {v : Value} {c : Nat → Nat} (h : w.ownsRow B 28 1 v n (cells16 n c)) : ∃ A cap, v = .slice A n cap ∧ n ≤ cap ∧ cap ≤ maxLen ∧ (A = none → cap = 0) ∧ Own B w A n c := by
  obtain ⟨_, hf⟩ := h
  rcases hf with ⟨rfl, h0⟩ | ⟨g, cap, cur, rfl, hB, hg, hnc, hcm, hcs, ht⟩
  · subst h0
    exact ⟨none, 0, rfl, Nat.le_refl _, by simp [maxLen], fun _ => rfl, fun h => absurd h (by omega)⟩
  · refine ⟨_, cap, rfl, hnc, hcm, (fun h => by cases h), fun hn => ⟨g, cur, rfl, hB, hg, by omega, fun j hj => ?_⟩⟩
    rw [← cells16_get n c j hj, ← ht]
    simp [List.getElem?_take, hj]

theorem pix_news {w : World} {A : Option Addr} {n : Nat} {c : Nat → Nat} (h : Pix w A n c) : 0 < n → ∃ b off, A = some ⟨b, off, none⟩ ∧ ∀ j u, (cells16 n c)[j]? = some u → w.cell? ⟨b, off + j, none⟩ = some u := fun hn => by
  obtain ⟨bk, off, rfl, hlt, hc⟩ := h hn
  refine ⟨bk, off, rfl, fun j u hj => ?_⟩
  have hj' : j < n := by have := (List.getElem?_eq_some_iff.1 hj).1; simpa [cells16] using this
  rw [cells16_get n c j hj'] at hj
  rw [hc j hj', hj]

theorem own_empty (w : World) : (w.alloc (.cells #[] 28)).ownsRow w.heap.size 28 1 (.slice (some ⟨w.heap.size, 0, none⟩) 0 0) 0 [] :=
  ⟨rfl, .inr ⟨w.heap.size, 0, #[], rfl, Nat.le_refl _, hp_new0 w _, Nat.le_refl _, by simp [maxLen], rfl, rfl⟩⟩
/-- n samples in a new row. -/
def NewRow (B : Nat) (w : World) (n : Nat) (A : Option Addr) (cap : Nat) (c : Nat → Nat) : Prop := n ≤ cap ∧ cap ≤ maxLen ∧ (A = none → cap = 0) ∧ Own B w A n c
theorem NewRow.of_row {B : Nat} {w : World} {n : Nat} {v : Value} {c : Nat → Nat} (h : w.ownsRow B 28 1 v n (cells16 n c)) : ∃ A cap, v = .slice A n cap ∧ NewRow B w n A cap c := by
  obtain ⟨A, cap, h1, h2, h3, h4, h5⟩ := Own.of_row h
  exact ⟨A, cap, h1, h2, h3, h4, h5⟩
theorem NewRow.set {B : Nat} {w : World} {n : Nat} {A : Option Addr} {cap : Nat} {c : Nat → Nat} {g : Nat} (h : NewRow B w n A cap c) (hg : g < B) (i : Nat) (v : Value) : NewRow B (w.setCell ⟨g, i, none⟩ v) n A cap c := ⟨h.1, h.2.1, h.2.2.1, h.2.2.2.set hg i v⟩
theorem NewRow.le {B B' : Nat} {w : World} {n : Nat} {A : Option Addr} {cap : Nat} {c : Nat → Nat} (h : NewRow B w n A cap c) (hb : B' ≤ B) : NewRow B' w n A cap c := ⟨h.1, h.2.1, h.2.2.1, h.2.2.2.le hb⟩
def clonePost (n : Nat) (c : Nat → Nat) (w : World) (e : Ending) (w' : World) : Prop := ∃ A' cap', e = .returned (.slice A' n cap') ∧ NewRow w.heap.size w' n A' cap' c

theorem results_cell1 {fn : Func} {p : Tmp} {ty : TypeId} (h : fn.results = #[.cell p ty]) (tmps : Array Value) (P : Program) (w : World) :
    (results fn tmps).run P w = ((asAddr (tmps.getD p undef)).run P w).andThen fun a w₁ => (loadVar ty a).run P w₁ := by
  simp only [results, h]
  simp [Sem.run_bind, Result.andThen]
def copyPost (a b : Int) (n : Nat) (c : Nat → Nat) (w : World) (e : Ending) (w' : World) : Prop := ∃ A' cap', e = .returned (.agg #[.int .i64 a, .int .i64 b, .slice A' n cap']) ∧ NewRow w.heap.size w' n A' cap' c

set_option maxRecDepth 100000 in
set_option maxHeartbeats 1000000 in
theorem copy_ref (a b : Int) (A : Option Addr) (n cap : Nat) (c : Nat → Nat) (hn : n ≤ cap) (hmax : cap ≤ maxLen) (hz : A = none → cap = 0) (hsmall : n ≤ 1000000) (w : World) (hP : Pix w A n c) :
    Calls Try.prog 11 #[.agg #[.int .i64 a, .int .i64 b, .slice A n cap]] w fun e w' => copyPost a b n c w e w' ∧ Below w.heap.size w w' := by
  obtain ⟨i0, hi, hz0, hz1, hz2⟩ := info_parts info16
  have hB0 : Below w.heap.size w ((w.alloc (.cells #[.int .i64 a, .int .i64 b, .slice A n cap] 26)).alloc (.cells #[.int .i64 0, .int .i64 0, .slice none 0 0] 26)).drew := (((Below.refl _ w).alloc (Nat.le_refl _) _).alloc (by simp) _).drew
  have hP0 := hP.below hB0
  have q0 := hp_alloc (.cells #[.int .i64 0, .int .i64 0, .slice none 0 0] 26) (hp_new0 w (.cells #[.int .i64 a, .int .i64 b, .slice A n cap] 26))
  have q1 := hp_new0 (w.alloc (.cells #[.int .i64 a, .int .i64 b, .slice A n cap] 26)) (.cells #[.int .i64 0, .int .i64 0, .slice none 0 0] 26)
  rw [World.size_alloc] at q1
  obtain ⟨v', w2, hrun, hown, hgr, hat⟩ := run_app (P := Try.prog) (w := ((w.alloc (.cells #[.int .i64 a, .int .i64 b, .slice A n cap] 26)).alloc (.cells #[.int .i64 0, .int .i64 0, .slice none 0 0] 26)).drew) (w.heap.size + 2) 24 24 28 i0 _ 1 2 Try.underlying24 hi hz0 hz1 hz2 rfl (by omega) (.slice none 0 0) 0 [] (World.ownsRow_nil _ _ _ _) A n cap (cells16 n c) hz (by simp [cells16]) (pix_news hP0) (cells16_one n c) (by unfold maxLen; omega) (by omega) (by simp)
  rw [Nat.zero_add, List.nil_append] at hown
  obtain ⟨A', cap', rfl, hR⟩ := NewRow.of_row hown
  have hgr2 : Below (w.heap.size + 2) ((w.alloc (.cells #[.int .i64 a, .int .i64 b, .slice A n cap] 26)).alloc (.cells #[.int .i64 0, .int .i64 0, .slice none 0 0] 26)).drew w2 := (Below.refl _ _).grown hgr (by simp) (fun g hg => by cases hg)
  have p0 : w2.heap[w.heap.size]? = _ := (hgr2.block _ (by omega)).trans q0
  have m0 := hp_cell (j := 0) p0 rfl
  have m1 := hp_cell (j := 1) p0 rfl
  have m2 := hp_cell (j := 2) p0 rfl
  have p1 : w2.heap[w.heap.size + 1]? = _ := (hgr2.block _ (by omega)).trans q1
  have f1 : ∀ j, w2.frozen? ⟨w.heap.size + 1, j, none⟩ = false := fun j => by simp [World.frozen?, p1]
  have l0 := hp_cell (j := 0) p1 rfl
  have l1 := hp_cell (j := 1) p1 rfl
  have l2 := hp_cell (j := 2) p1 rfl
  have HB := Lib.hid (hB0.trans (hgr2.mono (by omega)))
  have HR := Lib.hid hR
  clear hP hP0 hB0 q0 q1 hown hgr hat hgr2 p0 p1 hR
  go_enter Try.func11, Try.ntmps11
  go_wp2_with fail
  go_region_held3 (fun w' => w'.cell? ⟨w.heap.size, 0, none⟩ = some (.int .i64 a) ∧ w'.cell? ⟨w.heap.size, 1, none⟩ = some (.int .i64 b) ∧ w'.cell? ⟨w.heap.size, 2, none⟩ = some (.slice A n cap))
    (first | go_keep | (go_split_ands; exact ⟨m0, m1, m2⟩))
    ((refine step_app (by rfl) _ _ 24 (by rfl) _ _ (.slice A' n cap') w2 (by rfl) (by rfl) hrun ?_))
  all_goals go_wp2
  all_goals refine bodyPost_ret (v := .agg #[.int .i64 a, .int .i64 b, .slice A' n cap']) (by rw [results_cell1 rfl]; go_simp) rfl ?_
  all_goals refine ⟨⟨A', cap', rfl, ?_⟩, ?_⟩
  · exact (((HR.out.set (g := w.heap.size + 1) (by omega) 0 _).set (g := w.heap.size + 1) (by omega) 1 _).set (g := w.heap.size + 1) (by omega) 2 _).le (by omega)
  · exact ((HB.out.setCell (p := ⟨w.heap.size + 1, 0, none⟩) (by simp) _).setCell (p := ⟨w.heap.size + 1, 1, none⟩) (by simp) _).setCell (p := ⟨w.heap.size + 1, 2, none⟩) (by simp) _
end Go.Proofs.Ythgafdbdmemkhaa
