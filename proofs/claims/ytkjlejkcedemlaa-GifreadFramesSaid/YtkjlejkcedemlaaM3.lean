/- Copies: slices.Clone, raster.Copy, engraverref8.Copy. Two pictures compared: slices.Equal, raster.Same, engraverref8.Same. palette: Bits of both; words for what Draw and Make leave. palette.Draw and engraverref8.Draw. palette.Make. engraverref8.Make. engraverref8.At and Set; Set of both, over rows of one's own. -/
import Derived.Test.YtkjlejkcedemlaaM2
import Derived.Deep.RegionHeld3
import Derived.Deep.AppendLies
namespace Go.Proofs.Ytkjlejkcedemlaa
set_option maxRecDepth 100000
set_option linter.unusedVariables false
open Go.ChangeShapes Go.WideShapes Go.ChangeAt Go.RowKit

/-- append to a row of one's own, whatever slice is appended. -/
theorem run_app {P : Program} {w : World} (base : Nat) (t ty e : TypeId) (i : TypeInfo) (z : Value) (size bytes : Nat) (ht : P.underlying t = some (.slice e)) (hi : P.info? e = some i) (hz : i.zero = some z)
    (hsize : i.size = size) (hby : i.bytes = bytes) (hzs : z.cells.size = size) (hsz : 0 < size)
    (v : Value) (n : Nat) (xs : List Value) (hown : w.ownsRow base e size v n xs)
    (A : Option Addr) (m c : Nat) (news : List Value) (hA : A = none → c = 0) (hl : news.length = m * size) (hnews : 0 < m → ∃ b off, A = some ⟨b, off, none⟩ ∧ ∀ j u, news[j]? = some u → w.cell? ⟨b, off + j, none⟩ = some u) (h1 : ∀ u ∈ news, u.oneCell' = true)
    (h63 : n + m ≤ maxLen) (hbytes : (n + m) * bytes ≤ 140737488355328) (hbase : base ≤ w.heap.size) :
    ∃ v' w', (Builtin.append_ #[t, t] ty #[v, .slice A m c]).run P w = .ok v' w' ∧ w'.ownsRow base e size v' (n + m) (xs ++ news) ∧ w.grownBy w' v.ownBlock ∧ (v'.ownBlock = v.ownBlock ∨ v'.ownBlock = some w.heap.size) := by
  cases A with
  | none =>
    have hm : m = 0 := by
      apply Nat.eq_zero_of_not_pos
      intro h
      obtain ⟨b, off, he, _⟩ := hnews h
      cases he
    have hc := hA rfl
    subst hm hc
    have hn : news = [] := List.eq_nil_of_length_eq_zero (by omega)
    subst hn
    exact ⟨v, w, run_append_owned_none w base t ty e i size ht hi v n xs hown, by simpa using hown, ⟨rfl, rfl, rfl, Nat.le_refl _, fun _ _ _ => rfl⟩, .inl rfl⟩
  | some ad =>
    have hcell : ∀ j u, news[j]? = some u → w.cell? (ad.add j) = some u := by
      intro j u hj
      have hm : 0 < m := by
        apply Nat.pos_of_ne_zero
        intro h
        rw [h, Nat.zero_mul] at hl
        rw [List.eq_nil_of_length_eq_zero hl] at hj
        simp at hj
      obtain ⟨b, off, he, hc⟩ := hnews hm
      cases he
      rw [Addr.add_lit]
      exact hc j u hj
    obtain ⟨v', w', g1, g2, g3, _, g5⟩ := run_append_own_at w base t ty e i z size bytes ht hi hz hsize hby hzs hsz v n xs hown ad m c news hl hcell h1 h63 hbytes hbase
    exact ⟨v', w', g1, g2, g3, g5⟩

theorem wpList_app {P : Program} {w : World} {ops : Array Oper} {rest : List Oper} {o : Oper} {a : Act} {Q : Exit → Act → World → Prop} (hgd : o.guard = none) (s x : Operand) (t : TypeId)
    (ho : o.op = .call { callee := .builtin .append, args := #[s, x], argTypes := #[t, t] }) (v sv v' : Value) (w' : World) (hs : a.eval s = v) (hx : a.eval x = sv)
    (hrun : (Builtin.append_ #[t, t] o.type #[v, sv]).run P w = .ok v' w') (h : wpList P ops Q rest (a.put o.dst v') w') : wpList P ops Q (o :: rest) a w := by
  refine wpList_plain hgd fun K hK => ?_
  unfold Oper.wp
  simp [execOp, ho, resolve, invoke, builtin, hs, hx, hrun, Result.andThen]
  exact hK _ _ h
theorem step_app {P : Program} {w : World} {ops : Array Oper} {o : Oper} {a : Act} {K : Act → World → Prop} {Q : Exit → Act → World → Prop} {E : Prop} (hgd : o.guard = none) (s x : Operand) (t : TypeId)
    (ho : o.op = .call { callee := .builtin .append, args := #[s, x], argTypes := #[t, t] }) (v sv v' : Value) (w' : World) (hs : a.eval s = v) (hx : a.eval x = sv)
    (hrun : (Builtin.append_ #[t, t] o.type #[v, sv]).run P w = .ok v' w') (h : K (a.put o.dst v') w') : if Region.wanted o (yielded ops a.tmps) = true then Oper.wp P o a w K Q else E := by
  have hw : Region.wanted o (yielded ops a.tmps) = true := by simp [Region.wanted, hgd]
  rw [if_pos hw]
  unfold Oper.wp
  simp [execOp, ho, resolve, invoke, builtin, hs, hx, hrun, Result.andThen]
  exact h
/-- A picture's samples in a row of one's own. -/
def Own (B : Nat) (w : World) (A : Option Addr) (n : Nat) (c : Nat → Nat) : Prop :=
  0 < n → ∃ g cur, A = some ⟨g, 0, none⟩ ∧ B ≤ g ∧ w.heap[g]? = some (.cells cur 46 (0, 0)) ∧ n ≤ cur.size ∧ ∀ j, j < n → cur[j]? = some (.int .u16 (c j : Nat))
theorem Own.pix {B : Nat} {w : World} {A : Option Addr} {n : Nat} {c : Nat → Nat} (h : Own B w A n c) : Pix w A n c := fun hn => by
  obtain ⟨g, cur, rfl, hB, hg, hs, hc⟩ := h hn
  exact ⟨g, 0, rfl, (Array.getElem?_eq_some_iff.1 hg).1, fun j hj => by rw [Nat.zero_add]; exact hp_cell hg (hc j hj)⟩
theorem Own.below {B : Nat} {w w' : World} {A : Option Addr} {n : Nat} {c : Nat → Nat} (h : Own B w A n c) (hb : Below w.heap.size w w') : Own B w' A n c := fun hn => by
  obtain ⟨g, cur, rfl, hB, hg, hs, hc⟩ := h hn
  exact ⟨g, cur, rfl, hB, hp_below hg hb (Array.getElem?_eq_some_iff.1 hg).1, hs, hc⟩
theorem Own.le {B B' : Nat} {w : World} {A : Option Addr} {n : Nat} {c : Nat → Nat} (h : Own B w A n c) (hb : B' ≤ B) : Own B' w A n c := fun hn => by
  obtain ⟨g, cur, rfl, hB, hg, hs, hc⟩ := h hn
  exact ⟨g, cur, rfl, Nat.le_trans hb hB, hg, hs, hc⟩
/-- Another block is written. -/
theorem Own.grown {B : Nat} {w w' : World} {A : Option Addr} {n : Nat} {c : Nat → Nat} {g : Nat} (h : Own B w A n c) (hg : w.grownBy w' (some g)) (hne : ∀ k, A = some ⟨k, 0, none⟩ → k ≠ g) : Own B w' A n c := fun hn => by
  obtain ⟨k, cur, rfl, hB, hk, hs, hc⟩ := h hn
  exact ⟨k, cur, rfl, hB, (hg.block k (Array.getElem?_eq_some_iff.1 hk).1 (fun e => by injection e with e; exact hne k rfl e)).trans hk, hs, hc⟩
theorem Own.set {B : Nat} {w : World} {A : Option Addr} {n : Nat} {c : Nat → Nat} {g : Nat} (h : Own B w A n c) (hg : g < B) (i : Nat) (v : Value) : Own B (w.setCell ⟨g, i, none⟩ v) A n c := fun hn => by
  obtain ⟨k, cur, rfl, hB, hk, hs, hc⟩ := h hn
  exact ⟨k, cur, rfl, hB, ((grown_set w g i v).block k (Array.getElem?_eq_some_iff.1 hk).1 (fun e => by injection e; omega)).trans hk, hs, hc⟩
theorem Own.lt {B : Nat} {w : World} {A : Option Addr} {n : Nat} {c : Nat → Nat} (h : Own B w A n c) : ∀ k, 0 < n → A = some ⟨k, 0, none⟩ → B ≤ k ∧ k < w.heap.size := fun k hn he => by
  obtain ⟨g, cur, h1, hB, hg, _⟩ := h hn
  rw [he] at h1
  injection h1 with h1
  injection h1 with h1
  subst h1
  exact ⟨hB, (Array.getElem?_eq_some_iff.1 hg).1⟩
theorem Own.frame {B : Nat} {w w' : World} {A A' : Option Addr} {n m : Nat} {c : Nat → Nat} (h : Own B w A n c) (hfr : ∀ g o, w.heap[g]? = some o → (∀ k, 0 < m → A' = some ⟨k, 0, none⟩ → k ≠ g) → w'.heap[g]? = some o)
    (hne : ∀ g k, A = some ⟨g, 0, none⟩ → 0 < n → 0 < m → A' = some ⟨k, 0, none⟩ → k ≠ g) : Own B w' A n c := fun hn => by
  obtain ⟨g, cur, rfl, hB, hg, hs, hcl⟩ := h hn
  exact ⟨g, cur, rfl, hB, hfr g _ hg (fun k hm he => hne g k rfl hn hm he), hs, hcl⟩

def cells16 (n : Nat) (c : Nat → Nat) : List Value := (List.range n).map fun j => .int .u16 (c j : Nat)
theorem cells16_get (n : Nat) (c : Nat → Nat) (j : Nat) (hj : j < n) : (cells16 n c)[j]? = some (.int .u16 (c j : Nat)) := by simp [cells16, hj]
theorem cells16_one (n : Nat) (c : Nat → Nat) : ∀ u ∈ cells16 n c, u.oneCell' = true := by
  intro u hu
  obtain ⟨j, _, rfl⟩ := List.mem_map.1 hu
  rfl
theorem Own.of_row {B : Nat} {w : World} {n : Nat} {v : Value} {c : Nat → Nat} (h : w.ownsRow B 46 1 v n (cells16 n c)) : ∃ A cap, v = .slice A n cap ∧ n ≤ cap ∧ cap ≤ maxLen ∧ (A = none → cap = 0) ∧ Own B w A n c := by
  obtain ⟨_, hf⟩ := h
  rcases hf with ⟨rfl, h0⟩ | ⟨g, cap, cur, rfl, hB, hg, hnc, hcm, hcs, ht⟩
  · subst h0
    exact ⟨none, 0, rfl, Nat.le_refl _, by simp [maxLen], fun _ => rfl, fun h => absurd h (by omega)⟩
  · refine ⟨_, cap, rfl, hnc, hcm, (fun h => by cases h), fun hn => ⟨g, cur, rfl, hB, hg, by omega, fun j hj => ?_⟩⟩
    rw [← cells16_get n c j hj, ← ht]
    simp [hj]

theorem pix_news {w : World} {A : Option Addr} {n : Nat} {c : Nat → Nat} (h : Pix w A n c) : 0 < n → ∃ b off, A = some ⟨b, off, none⟩ ∧ ∀ j u, (cells16 n c)[j]? = some u → w.cell? ⟨b, off + j, none⟩ = some u := fun hn => by
  obtain ⟨bk, off, rfl, hlt, hc⟩ := h hn
  refine ⟨bk, off, rfl, fun j u hj => ?_⟩
  have hj' : j < n := by have := (List.getElem?_eq_some_iff.1 hj).1; simpa [cells16] using this
  rw [cells16_get n c j hj'] at hj
  rw [hc j hj', hj]

theorem own_empty (w : World) : (w.alloc (.cells #[] 46)).ownsRow w.heap.size 46 1 (.slice (some ⟨w.heap.size, 0, none⟩) 0 0) 0 [] :=
  ⟨rfl, .inr ⟨w.heap.size, 0, #[], rfl, Nat.le_refl _, hp_new0 w _, Nat.le_refl _, by simp [maxLen], rfl, rfl⟩⟩
/-- n samples in a new row. -/
def NewRow (B : Nat) (w : World) (n : Nat) (A : Option Addr) (cap : Nat) (c : Nat → Nat) : Prop := n ≤ cap ∧ cap ≤ maxLen ∧ (A = none → cap = 0) ∧ Own B w A n c
theorem NewRow.of_row {B : Nat} {w : World} {n : Nat} {v : Value} {c : Nat → Nat} (h : w.ownsRow B 46 1 v n (cells16 n c)) : ∃ A cap, v = .slice A n cap ∧ NewRow B w n A cap c := by
  obtain ⟨A, cap, h1, h2, h3, h4, h5⟩ := Own.of_row h
  exact ⟨A, cap, h1, h2, h3, h4, h5⟩
theorem NewRow.set {B : Nat} {w : World} {n : Nat} {A : Option Addr} {cap : Nat} {c : Nat → Nat} {g : Nat} (h : NewRow B w n A cap c) (hg : g < B) (i : Nat) (v : Value) : NewRow B (w.setCell ⟨g, i, none⟩ v) n A cap c := ⟨h.1, h.2.1, h.2.2.1, h.2.2.2.set hg i v⟩
theorem NewRow.le {B B' : Nat} {w : World} {n : Nat} {A : Option Addr} {cap : Nat} {c : Nat → Nat} (h : NewRow B w n A cap c) (hb : B' ≤ B) : NewRow B' w n A cap c := ⟨h.1, h.2.1, h.2.2.1, h.2.2.2.le hb⟩
def clonePost (n : Nat) (c : Nat → Nat) (w : World) (e : Ending) (w' : World) : Prop := ∃ A' cap', e = .returned (.slice A' n cap') ∧ NewRow w.heap.size w' n A' cap' c

theorem results_cell1 {fn : Func} {p : Tmp} {ty : TypeId} (h : fn.results = #[.cell p ty]) (tmps : Array Value) (P : Program) (w : World) :
    (results fn tmps).run P w = ((asAddr (tmps.getD p undef)).run P w).andThen fun a w₁ => (loadVar ty a).run P w₁ := by
  simp only [results, h]
  simp [Sem.run_bind, Result.andThen]
def copyPost (a b : Int) (n : Nat) (c : Nat → Nat) (w : World) (e : Ending) (w' : World) : Prop := ∃ A' cap', e = .returned (.agg #[.int .i64 a, .int .i64 b, .slice A' n cap']) ∧ NewRow w.heap.size w' n A' cap' c

end Go.Proofs.Ytkjlejkcedemlaa

namespace Go.Proofs.Ytkjlejkcedemlaa
set_option maxRecDepth 100000
set_option linter.unusedVariables false
open Go.ChangeShapes Go.WideShapes Go.ChangeAt Go.RowKit

def allEq (n : Nat) (c d : Nat → Nat) : Bool := (List.range n).all fun j => c j == d j
theorem allEq_t {n : Nat} {c d : Nat → Nat} (h : ∀ j, j < n → c j = d j) : allEq n c d = true := by simp [allEq]; exact h
theorem allEq_iff {n : Nat} {c d : Nat → Nat} : allEq n c d = true ↔ ∀ j, j < n → c j = d j := by simp [allEq]
theorem allEq_f {n k : Nat} {c d : Nat → Nat} (hk : k < n) (h : c k ≠ d k) : allEq n c d = false := by
  rw [← Bool.not_eq_true, allEq_iff]
  intro h2
  exact h (h2 k hk)
theorem agree_snoc {k : Nat} {c d : Nat → Nat} (h : ∀ j, j < k → c j = d j) (hk : c k = d k) : ∀ j, j < k + 1 → c j = d j := by
  intro j hj
  by_cases e : j = k
  · subst e; exact hk
  · exact h j (by omega)

def sameB (a b : Int) (n : Nat) (c : Nat → Nat) (a2 b2 : Int) (n2 : Nat) (d : Nat → Nat) : Bool := mayB a b n && (mayB a2 b2 n2 && (decide (a = a2) && (decide (b = b2) && allEq n c d)))
theorem same_cases (a b : Int) (n : Nat) (a2 b2 : Int) (n2 : Nat) : (mayB a b n = false) ∨ (mayB a b n = true ∧ mayB a2 b2 n2 = false) ∨ (mayB a b n = true ∧ mayB a2 b2 n2 = true ∧ ¬a = a2) ∨ (mayB a b n = true ∧ mayB a2 b2 n2 = true ∧ a = a2 ∧ ¬b = b2) ∨ (mayB a b n = true ∧ mayB a2 b2 n2 = true ∧ a = a2 ∧ b = b2 ∧ n = n2) := by
  cases h : mayB a b n
  · exact .inl rfl
  · cases h2 : mayB a2 b2 n2
    · exact .inr (.inl ⟨rfl, rfl⟩)
    · by_cases e : a = a2
      · by_cases e2 : b = b2
        · have h3 := (may_ok h).2
          have h4 := (may_ok h2).2
          subst e e2
          exact .inr (.inr (.inr (.inr ⟨rfl, rfl, rfl, rfl, by omega⟩)))
        · exact .inr (.inr (.inr (.inl ⟨rfl, rfl, e, e2⟩)))
      · exact .inr (.inr (.inl ⟨rfl, rfl, e⟩))

set_option maxRecDepth 100000 in
set_option maxHeartbeats 2000000 in
theorem same_ref (a b : Int) (A : Option Addr) (n cap : Nat) (c : Nat → Nat) (a2 b2 : Int) (A2 : Option Addr) (n2 cap2 : Nat) (d : Nat → Nat) (ha : In64 a) (hb : In64 b) (ha2 : In64 a2) (hb2 : In64 b2) (hn : n ≤ cap) (hmax : cap ≤ maxLen) (hn2 : n2 ≤ cap2) (hmax2 : cap2 ≤ maxLen)
    (w : World) (hP : Pix w A n c) (hP2 : Pix w A2 n2 d) :
    Calls Try.prog 15 #[.agg #[.int .i64 a, .int .i64 b, .slice A n cap], .agg #[.int .i64 a2, .int .i64 b2, .slice A2 n2 cap2]] w fun e w' => e = .returned (.bool (sameB a b n c a2 b2 n2 d)) ∧ Below w.heap.size w w' := by
  obtain ⟨q0, q1, q2, q3⟩ := two_boxes w #[.int .i64 a, .int .i64 b, .slice A n cap] #[.int .i64 a2, .int .i64 b2, .slice A2 n2 cap2] 26 26
  have hPa := hP.below q3
  have hPb := hP2.below q3
  clear hP hP2
  rcases same_cases a b n a2 b2 n2 with m1 | ⟨m1, m2⟩ | ⟨m1, m2, e1⟩ | ⟨m1, m2, e1, e2⟩ | ⟨m1, m2, e1, e2, e3⟩
  · have HG := Lib.hid (show sameB a b n c a2 b2 n2 d = false by simp [sameB, m1])
    have M1 := Lib.hid m1
    clear m1
    go_enter Try.func15, Try.ntmps15
    go_wp2_with fail
    refine (may_ref a b A n cap ha hb hn hmax _).mono ?_
    rintro e w2 ⟨rfl, hB⟩
    rw [M1.out]
    rw [q0] at hB
    have HB := Lib.hid (q3.trans (hB.mono (by omega)))
    clear hB q3
    go_wp2_with fail
    go_ret
    exact ⟨ret_b HG.out.symm, HB.out⟩
  all_goals
    have M1 := Lib.hid m1
    have M2 := Lib.hid m2
    clear m1 m2
  · have HG := Lib.hid (show sameB a b n c a2 b2 n2 d = false by simp [sameB, M2.out])
    go_enter Try.func15, Try.ntmps15
    go_wp2_with fail
    refine (may_ref a b A n cap ha hb hn hmax _).mono ?_
    rintro e w2 ⟨rfl, hB⟩
    rw [M1.out]
    rw [q0] at hB
    have p0 := hp_below q1 hB (by omega)
    have p1 := hp_below q2 hB (by omega)
    have k0 := hp_cell (j := 0) p0 rfl
    have k1 := hp_cell (j := 1) p0 rfl
    have k2 := hp_cell (j := 2) p0 rfl
    have l0 := hp_cell (j := 0) p1 rfl
    have l1 := hp_cell (j := 1) p1 rfl
    have l2 := hp_cell (j := 2) p1 rfl
    have hs2 := hB.size
    have HB := Lib.hid (q3.trans (hB.mono (by omega)))
    have HPa := Lib.hid (hPa.below (by rw [q0]; exact hB))
    have HPb := Lib.hid (hPb.below (by rw [q0]; exact hB))
    clear hB q1 q2 q3 hPa hPb
    go_wp2_with fail
    refine (may_ref a2 b2 A2 n2 cap2 ha2 hb2 hn2 hmax2 _).mono ?_
    rintro e w3 ⟨rfl, hB⟩
    rw [M2.out]
    have p0 := hp_below p0 hB (by omega)
    have p1 := hp_below p1 hB (by omega)
    have k0 := hp_cell (j := 0) p0 rfl
    have k1 := hp_cell (j := 1) p0 rfl
    have k2 := hp_cell (j := 2) p0 rfl
    have l0 := hp_cell (j := 0) p1 rfl
    have l1 := hp_cell (j := 1) p1 rfl
    have l2 := hp_cell (j := 2) p1 rfl
    have HPa := Lib.hid (HPa.out.below hB)
    have HPb := Lib.hid (HPb.out.below hB)
    have HB := Lib.hid (HB.out.trans (hB.mono HB.out.size))
    clear hB
    go_wp2_with fail
    go_ret
    exact ⟨ret_b HG.out.symm, HB.out⟩
  · have HG := Lib.hid (show sameB a b n c a2 b2 n2 d = false by simp [sameB, e1])
    have t1 : (a == a2) = false := by rw [beq_eq_false_iff_ne]; exact e1
    have t2 : (a != a2) = true := by rw [bne_iff_ne]; exact e1
    clear e1
    go_enter Try.func15, Try.ntmps15
    go_wp2_with fail
    refine (may_ref a b A n cap ha hb hn hmax _).mono ?_
    rintro e w2 ⟨rfl, hB⟩
    rw [M1.out]
    rw [q0] at hB
    have p0 := hp_below q1 hB (by omega)
    have p1 := hp_below q2 hB (by omega)
    have k0 := hp_cell (j := 0) p0 rfl
    have k1 := hp_cell (j := 1) p0 rfl
    have k2 := hp_cell (j := 2) p0 rfl
    have l0 := hp_cell (j := 0) p1 rfl
    have l1 := hp_cell (j := 1) p1 rfl
    have l2 := hp_cell (j := 2) p1 rfl
    have hs2 := hB.size
    have HB := Lib.hid (q3.trans (hB.mono (by omega)))
    have HPa := Lib.hid (hPa.below (by rw [q0]; exact hB))
    have HPb := Lib.hid (hPb.below (by rw [q0]; exact hB))
    clear hB q1 q2 q3 hPa hPb
    go_wp2_with fail
    refine (may_ref a2 b2 A2 n2 cap2 ha2 hb2 hn2 hmax2 _).mono ?_
    rintro e w3 ⟨rfl, hB⟩
    rw [M2.out]
    have p0 := hp_below p0 hB (by omega)
    have p1 := hp_below p1 hB (by omega)
    have k0 := hp_cell (j := 0) p0 rfl
    have k1 := hp_cell (j := 1) p0 rfl
    have k2 := hp_cell (j := 2) p0 rfl
    have l0 := hp_cell (j := 0) p1 rfl
    have l1 := hp_cell (j := 1) p1 rfl
    have l2 := hp_cell (j := 2) p1 rfl
    have HPa := Lib.hid (HPa.out.below hB)
    have HPb := Lib.hid (HPb.out.below hB)
    have HB := Lib.hid (HB.out.trans (hB.mono HB.out.size))
    clear hB
    go_wp2_with fail
    go_ret
    exact ⟨ret_b HG.out.symm, HB.out⟩
  · have HG := Lib.hid (show sameB a b n c a2 b2 n2 d = false by simp [sameB, e2])
    subst e1
    have t1 : (b == b2) = false := by rw [beq_eq_false_iff_ne]; exact e2
    have t2 : (b != b2) = true := by rw [bne_iff_ne]; exact e2
    clear e2
    go_enter Try.func15, Try.ntmps15
    go_wp2_with fail
    refine (may_ref a b A n cap ha hb hn hmax _).mono ?_
    rintro e w2 ⟨rfl, hB⟩
    rw [M1.out]
    rw [q0] at hB
    have p0 := hp_below q1 hB (by omega)
    have p1 := hp_below q2 hB (by omega)
    have k0 := hp_cell (j := 0) p0 rfl
    have k1 := hp_cell (j := 1) p0 rfl
    have k2 := hp_cell (j := 2) p0 rfl
    have l0 := hp_cell (j := 0) p1 rfl
    have l1 := hp_cell (j := 1) p1 rfl
    have l2 := hp_cell (j := 2) p1 rfl
    have hs2 := hB.size
    have HB := Lib.hid (q3.trans (hB.mono (by omega)))
    have HPa := Lib.hid (hPa.below (by rw [q0]; exact hB))
    have HPb := Lib.hid (hPb.below (by rw [q0]; exact hB))
    clear hB q1 q2 q3 hPa hPb
    go_wp2_with fail
    refine (may_ref a b2 A2 n2 cap2 ha2 hb2 hn2 hmax2 _).mono ?_
    rintro e w3 ⟨rfl, hB⟩
    rw [M2.out]
    have p0 := hp_below p0 hB (by omega)
    have p1 := hp_below p1 hB (by omega)
    have k0 := hp_cell (j := 0) p0 rfl
    have k1 := hp_cell (j := 1) p0 rfl
    have k2 := hp_cell (j := 2) p0 rfl
    have l0 := hp_cell (j := 0) p1 rfl
    have l1 := hp_cell (j := 1) p1 rfl
    have l2 := hp_cell (j := 2) p1 rfl
    have HPa := Lib.hid (HPa.out.below hB)
    have HPb := Lib.hid (HPb.out.below hB)
    have HB := Lib.hid (HB.out.trans (hB.mono HB.out.size))
    clear hB
    go_wp2_with fail
    go_ret
    exact ⟨ret_b HG.out.symm, HB.out⟩
  · subst e1 e2 e3
    have HG := Lib.hid (show sameB a b n c a b n d = allEq n c d by simp [sameB, M1.out])
    go_enter Try.func15, Try.ntmps15
    go_wp2_with fail
    refine (may_ref a b A n cap ha hb hn hmax _).mono ?_
    rintro e w2 ⟨rfl, hB⟩
    rw [M1.out]
    rw [q0] at hB
    have p0 := hp_below q1 hB (by omega)
    have p1 := hp_below q2 hB (by omega)
    have k0 := hp_cell (j := 0) p0 rfl
    have k1 := hp_cell (j := 1) p0 rfl
    have k2 := hp_cell (j := 2) p0 rfl
    have l0 := hp_cell (j := 0) p1 rfl
    have l1 := hp_cell (j := 1) p1 rfl
    have l2 := hp_cell (j := 2) p1 rfl
    have hs2 := hB.size
    have HB := Lib.hid (q3.trans (hB.mono (by omega)))
    have HPa := Lib.hid (hPa.below (by rw [q0]; exact hB))
    have HPb := Lib.hid (hPb.below (by rw [q0]; exact hB))
    clear hB q1 q2 q3 hPa hPb
    go_wp2_with fail
    refine (may_ref a b A2 n cap2 ha2 hb2 hn2 hmax2 _).mono ?_
    rintro e w3 ⟨rfl, hB⟩
    rw [M2.out]
    have p0 := hp_below p0 hB (by omega)
    have p1 := hp_below p1 hB (by omega)
    have k0 := hp_cell (j := 0) p0 rfl
    have k1 := hp_cell (j := 1) p0 rfl
    have k2 := hp_cell (j := 2) p0 rfl
    have l0 := hp_cell (j := 0) p1 rfl
    have l1 := hp_cell (j := 1) p1 rfl
    have l2 := hp_cell (j := 2) p1 rfl
    have HPa := Lib.hid (HPa.out.below hB)
    have HPb := Lib.hid (HPb.out.below hB)
    have HB := Lib.hid (HB.out.trans (hB.mono HB.out.size))
    clear hB
    go_wp2_with fail
    have hs3 := (Array.getElem?_eq_some_iff.1 p1).1
    unfold maxLen at hmax hmax2
    go_loopw [5] (fun x wr => ∃ k : Nat, k ≤ n ∧ x = .int .i64 k ∧ (∀ j, j < k → c j = d j) ∧ Below w3.heap.size w3 wr) (fun x _ => n - (intOf x).toNat)
    case atStart => exact ⟨0, by omega, rfl, fun j hj => absurd hj (by omega), Below.refl _ _⟩
    case round =>
      clear k0 k1 k2 l0 l1 l2
      obtain ⟨k, hk, rfl, hag, hB⟩ := hrel
      have HAG := Lib.hid hag
      clear hag
      have o0 := hp_below p0 hB (by omega)
      have o1 := hp_below p1 hB (by omega)
      have k2 := hp_cell (j := 2) o0 rfl
      have l2 := hp_cell (j := 2) o1 rfl
      by_cases hlt : k < n
      · obtain ⟨bk, off, rfl, hbl, hcl⟩ := HPa.out (by omega)
        obtain ⟨bk2, off2, rfl, hbl2, hcl2⟩ := HPb.out (by omega)
        have c0 : wr.cell? ⟨bk, off + k, none⟩ = some (.int .u16 (c k : Nat)) := (hB.cell (p := ⟨bk, off + k, none⟩) hbl).trans (hcl k hlt)
        have c1 : wr.cell? ⟨bk2, off2 + k, none⟩ = some (.int .u16 (d k : Nat)) := (hB.cell (p := ⟨bk2, off2 + k, none⟩) hbl2).trans (hcl2 k hlt)
        clear hcl hcl2
        by_cases he : c k = d k
        · have HS := Lib.hid (agree_snoc HAG.out he)
          have hb : ((c k : Int) == (d k : Int)) = true := by rw [he]; simp
          have hb2 : ((c k : Int) != (d k : Int)) = false := by rw [he]; simp
          clear he
          go_wp2_with fail
          go_quiet (fail)
          go_wp2_with fail
          go_roundw
          case rel => exact ⟨k + 1, by omega, by go_num, HS.out, below_drewN hB _⟩
          case measure => simp [intOf]; omega
        · have HF := Lib.hid (allEq_f hlt he)
          have hb : ((c k : Int) == (d k : Int)) = false := by rw [beq_eq_false_iff_ne]; omega
          have hb2 : ((c k : Int) != (d k : Int)) = true := by rw [bne_iff_ne]; omega
          clear he
          go_wp2_with fail
          go_quiet (fail)
          go_wp2_with fail
          go_ret
          exact ⟨ret_b (by rw [HG.out, HF.out]), HB.out.trans ((below_drewN hB _).mono HB.out.size)⟩
      · obtain rfl : k = n := by omega
        have HF := Lib.hid (allEq_t HAG.out)
        go_wp2_with fail
        go_ret
        exact ⟨ret_b (by rw [HG.out, HF.out]), HB.out.trans (hB.mono HB.out.size)⟩
end Go.Proofs.Ytkjlejkcedemlaa

namespace Go.Proofs.Ytkjlejkcedemlaa
set_option maxRecDepth 100000
set_option linter.unusedVariables false
open Go.ChangeShapes Go.WideShapes Go.ChangeAt Go.RowKit

def bitsV (n : Int) : Int := if n ≤ 2 then 1 else if n ≤ 4 then 2 else if n ≤ 8 then 3 else if n ≤ 16 then 4 else if n ≤ 32 then 5 else if n ≤ 64 then 6 else if n ≤ 128 then 7 else 8
def pw (k : Nat) : Int := if k = 1 then 2 else if k = 2 then 4 else if k = 3 then 8 else if k = 4 then 16 else if k = 5 then 32 else if k = 6 then 64 else if k = 7 then 128 else 256
theorem bitsV_exit {n : Int} {k : Nat} (h1 : 1 ≤ k) (h8 : k ≤ 8) (hl : k = 1 ∨ pw (k - 1) < n) (he : k = 8 ∨ n ≤ pw k) : bitsV n = k := by
  have hk : k = 1 ∨ k = 2 ∨ k = 3 ∨ k = 4 ∨ k = 5 ∨ k = 6 ∨ k = 7 ∨ k = 8 := by omega
  rcases hk with rfl | rfl | rfl | rfl | rfl | rfl | rfl | rfl <;> simp [pw] at hl he <;> unfold bitsV <;> (repeat' split) <;> omega
set_option maxHeartbeats 1000000 in
theorem bits_ref (n : Int) (hn : In64 n) (w : World) : Calls Try.prog 30 #[.int .i64 n] w fun e w' => e = .returned (.int .i64 (bitsV n)) ∧ w = w' := by
  go_enter Try.func30, Try.ntmps30
  go_wp2_with fail
  go_loop [3] (fun b => ∃ k : Nat, 1 ≤ k ∧ k ≤ 8 ∧ b = .int .i64 k ∧ (k = 1 ∨ pw (k - 1) < n)) (fun b => 9 - (intOf b).toNat)
  case atStart => exact ⟨1, by omega, by omega, rfl, .inl rfl⟩
  case round =>
    obtain ⟨k, h1, h8, rfl, hl⟩ := hrel
    have HL := Lib.hid hl
    clear hl
    have hk : k = 1 ∨ k = 2 ∨ k = 3 ∨ k = 4 ∨ k = 5 ∨ k = 6 ∨ k = 7 ∨ k = 8 := by omega
    by_cases hp : pw k < n
    · rcases hk with rfl | rfl | rfl | rfl | rfl | rfl | rfl | rfl
      case inr.inr.inr.inr.inr.inr.inr =>
        have HE := Lib.hid (bitsV_exit h1 h8 HL.out (.inl rfl))
        go_wp2_with fail
        go_ret
        exact ⟨ret_i HE.out.symm, rfl⟩
      all_goals
        have HP := Lib.hid hp
        simp only [pw] at hp
        simp at hp
        go_wp2_with fail
        go_round
        case rel => first | exact ⟨2, by omega, by omega, rfl, .inr HP.out⟩ | exact ⟨3, by omega, by omega, rfl, .inr HP.out⟩ | exact ⟨4, by omega, by omega, rfl, .inr HP.out⟩ | exact ⟨5, by omega, by omega, rfl, .inr HP.out⟩ | exact ⟨6, by omega, by omega, rfl, .inr HP.out⟩ | exact ⟨7, by omega, by omega, rfl, .inr HP.out⟩ | exact ⟨8, by omega, by omega, rfl, .inr HP.out⟩
        case measure => simp [intOf]
    · have HE := Lib.hid (bitsV_exit h1 h8 HL.out (.inr (by omega)))
      rcases hk with rfl | rfl | rfl | rfl | rfl | rfl | rfl | rfl
      case inr.inr.inr.inr.inr.inr.inr =>
        clear hp
        go_wp2_with fail
        go_ret
        exact ⟨ret_i HE.out.symm, rfl⟩
      all_goals
        simp [pw] at hp
        go_wp2_with fail
        go_ret
        exact ⟨ret_i HE.out.symm, rfl⟩
end Go.Proofs.Ytkjlejkcedemlaa

namespace Go.Proofs.Ytkjlejkcedemlaa
set_option maxRecDepth 100000
set_option linter.unusedVariables false
open Go.ChangeShapes Go.WideShapes Go.ChangeAt Go.RowKit

/-- Bytes lie in w: m of them, d j the j-th. -/
def Byt (w : World) (A : Option Addr) (m : Nat) (d : Nat → Nat) : Prop :=
  0 < m → ∃ bk off, A = some ⟨bk, off, none⟩ ∧ bk < w.heap.size ∧ ∀ j, j < m → w.cell? ⟨bk, off + j, none⟩ = some (.int .u8 (d j : Nat))
theorem Byt.below {w w' : World} {A : Option Addr} {n : Nat} {c : Nat → Nat} (h : Byt w A n c) (hb : Below w.heap.size w w') : Byt w' A n c := fun hn => by
  obtain ⟨bk, off, rfl, hlt, hc⟩ := h hn
  exact ⟨bk, off, rfl, Nat.lt_of_lt_of_le hlt hb.size, fun j hj => (hb.cell (p := ⟨bk, off + j, none⟩) hlt).trans (hc j hj)⟩
def colAt (L : List P4) (i : Nat) : P4 := (L[i]?).getD (0, 0, 0, 0)
def part4 (p : P4) (k : Nat) : Nat := if k = 0 then p.1 else if k = 1 then p.2.1 else if k = 2 then p.2.2.1 else p.2.2.2
/-- The picture of places. -/
def drawC (L : List P4) (d : Nat → Nat) (j : Nat) : Nat := part4 (colAt L (d (j / 4))) (j % 4)
theorem drawC_lt {L : List P4} (hL : ∀ p ∈ L, w4 p) (d : Nat → Nat) (j : Nat) : drawC L d j < 65536 := by
  have h : w4 (colAt L (d (j / 4))) := by
    unfold colAt
    cases h : L[d (j / 4)]? with
    | none => unfold w4; simp
    | some p => exact hL p (List.mem_of_getElem? h)
  obtain ⟨h1, h2, h3, h4⟩ := h
  unfold drawC part4
  (repeat' split) <;> omega
def badIx (m : Nat) (L : List P4) (d : Nat → Nat) : Bool := (List.range m).any fun i => decide (L.length ≤ d i)
theorem bad_t {m i : Nat} {L : List P4} {d : Nat → Nat} (hi : i < m) (h : L.length ≤ d i) : badIx m L d = true := by
  simp only [badIx, List.any_eq_true, List.mem_range, decide_eq_true_eq]
  exact ⟨i, hi, h⟩
theorem bad_f {m : Nat} {L : List P4} {d : Nat → Nat} (h : ∀ i, i < m → d i < L.length) : badIx m L d = false := by
  rw [← Bool.not_eq_true]
  simp only [badIx, List.any_eq_true, List.mem_range, decide_eq_true_eq]
  rintro ⟨i, hi, h2⟩
  have := h i hi
  omega
def drawE (a b : Int) (m : Nat) (L : List P4) (d : Nat → Nat) : Int := if sizeE a b ≠ 0 then sizeE a b else if (m : Int) < a * b then 2 else if a * b < (m : Int) then 3 else if badIx m L d = true then 4 else 0
def drawPost (a b : Int) (m : Nat) (L : List P4) (d : Nat → Nat) (w : World) (e : Ending) (w' : World) : Prop :=
  (drawE a b m L d = 0 ∧ (m : Int) = a * b ∧ ∃ A cap, e = .returned (.tuple #[.agg #[.int .i64 a, .int .i64 b, .slice A (4 * m) cap], .int .i64 0]) ∧ NewRow w.heap.size w' (4 * m) A cap (drawC L d)) ∨
  (drawE a b m L d ≠ 0 ∧ e = .returned (.tuple #[.agg #[.int .i64 0, .int .i64 0, .slice none 0 0], .int .i64 (drawE a b m L d)]))
theorem draw_cur {n i : Nat} {cur : Array Value} {L : List P4} {d : Nat → Nat} (h : ∀ j, j < 4 * i → cur[j]? = some (.int .u16 (drawC L d j : Nat))) (hs : n ≤ cur.size) (hi : 4 * i + 4 ≤ n) {p : P4} (hp : colAt L (d i) = p) (j : Nat) (hj : j < 4 * (i + 1)) :
    (setCur cur i (cP p))[j]? = some (.int .u16 (drawC L d j : Nat)) := by
  by_cases h1 : 4 * i ≤ j
  · obtain ⟨k, rfl⟩ := Nat.le.dest h1
    rw [setCur_in _ _ _ (by simp [cP]; omega) _ (by simp [cP]; omega)]
    have e1 : (4 * i + k) / 4 = i := by omega
    have e2 : (4 * i + k) % 4 = k := by omega
    unfold drawC
    rw [e1, e2, hp]
    obtain rfl | rfl | rfl | rfl : k = 0 ∨ k = 1 ∨ k = 2 ∨ k = 3 := by omega
    all_goals rfl
  · rw [setCur_out _ _ _ (by simp [cP]; omega) _ (by omega), h j (by omega)]

/-- The loop's world behind i places. -/
structure DS (T : TypeId) (w : World) (a b : Int) (AL : Option Addr) (nL capL : Nat) (cl : Int) (R g m cap : Nat) (L : List P4) (d : Nat → Nat) (i : Nat) (wr : World) : Prop where
  below : Below w.heap.size w wr
  pal : wr.heap[w.heap.size]? = some (.cells #[.slice AL nL capL, .int .i64 cl] T (0, 0))
  res : wr.heap[w.heap.size + 1]? = some (.cells #[.int .i64 0, .int .i64 0, .slice none 0 0] 26 (0, 0))
  box : wr.heap[R]? = some (.cells #[.int .i64 a, .int .i64 b, .slice (some ⟨g, 0, none⟩) (4 * m) cap] 26 (0, 0))
  row : ∃ cur, wr.heap[g]? = some (.cells cur 46 (0, 0)) ∧ 4 * m ≤ cur.size ∧ ∀ j, j < 4 * i → cur[j]? = some (.int .u16 (drawC L d j : Nat))
theorem DS.drewN {T : TypeId} {w : World} {a b : Int} {AL : Option Addr} {nL capL : Nat} {cl : Int} {R g m cap : Nat} {L : List P4} {d : Nat → Nat} {i : Nat} {wr : World} (h : DS T w a b AL nL capL cl R g m cap L d i wr) (q : Nat) : DS T w a b AL nL capL cl R g m cap L d i (wr.drewN q) :=
  ⟨below_drewN h.below q, h.pal, h.res, h.box, h.row⟩
theorem DS.step {T : TypeId} {w : World} {a b : Int} {AL : Option Addr} {nL capL : Nat} {cl : Int} {R g m cap : Nat} {L : List P4} {d : Nat → Nat} {i : Nat} {wr : World} {cur : Array Value} (h : DS T w a b AL nL capL cl R g m cap L d i wr)
    (hg : wr.heap[g]? = some (.cells cur 46 (0, 0))) (hs : 4 * m ≤ cur.size) (hc : ∀ j, j < 4 * i → cur[j]? = some (.int .u16 (drawC L d j : Nat))) (hi : i < m) {p : P4} (hp : colAt L (d i) = p) (hgB : w.heap.size + 2 ≤ g) (hgR : g ≠ R) :
    DS T w a b AL nL capL cl R g m cap L d (i + 1) (wr.drew.setRow g (setCur cur i (cP p))) := by
  have hgr : wr.grownBy (wr.drew.setRow g (setCur cur i (cP p))) (some g) := (grown_drewS _ _).trans (grown_setRow _ _ _)
  have lt := fun {k : Nat} {o : Obj} (h : wr.heap[k]? = some o) => (Array.getElem?_eq_some_iff.1 h).1
  refine ⟨h.below.grown hgr h.below.size (fun k e => by cases e; omega), (hgr.block _ (lt h.pal) (fun e => by injection e; omega)).trans h.pal, (hgr.block _ (lt h.res) (fun e => by injection e; omega)).trans h.res, (hgr.block _ (lt h.box) (fun e => by injection e with e; exact hgR e.symm)).trans h.box, _, setRow_heap _ _ _ _ _ _ (show wr.drew.heap[g]? = _ from hg), ?_, fun j hj => draw_cur hc hs (by omega) hp j hj⟩
  rw [setCur_size _ _ _ (by simp [cP]; omega)]
  exact hs
theorem below3 {w W : World} (h : Below w.heap.size w W) {g : Nat} (hg : w.heap.size ≤ g) (v0 v1 v2 : Value) : Below w.heap.size w (((W.setCell ⟨g, 0, none⟩ v0).setCell ⟨g, 1, none⟩ v1).setCell ⟨g, 2, none⟩ v2) :=
  ((h.setCell (p := ⟨g, 0, none⟩) hg _).setCell (p := ⟨g, 1, none⟩) hg _).setCell (p := ⟨g, 2, none⟩) hg _
theorem all_snoc' {p : Nat → Prop} {k : Nat} (h : ∀ j, j < k → p j) (hk : p k) : ∀ j, j < k + 1 → p j := by
  intro j hj
  by_cases e : j = k
  · subst e; exact hk
  · exact h j (by omega)

end Go.Proofs.Ytkjlejkcedemlaa

namespace Go.Proofs.Ytkjlejkcedemlaa
set_option maxRecDepth 100000
set_option linter.unusedVariables false
open Go.ChangeShapes Go.WideShapes Go.ChangeAt Go.RowKit Go.Shelf
open Go.Maps
attribute [local go_sem] Oper.semAt_some

def placesL (l : List P4) : List Nat := (List.range l.length).map fun j => (uni (l.take j)).idxOf ((l[j]?).getD (0, 0, 0, 0))
theorem placesL_snoc (l : List P4) (p : P4) : placesL (l ++ [p]) = placesL l ++ [(uni l).idxOf p] := by
  unfold placesL
  rw [List.length_append, List.length_singleton, List.range_succ, List.map_append]
  congr 1
  · apply List.map_congr_left
    intro j hj
    have hj' : j < l.length := by simpa using hj
    rw [List.take_append_of_le_length (by omega), List.getElem?_append_left hj']
  · simp
theorem placesL_len (l : List P4) : (placesL l).length = l.length := by simp [placesL]
theorem placesL_ll (c : Nat → Nat) (N : Nat) : placesL (ll c N) = pl c N := by
  induction N with
  | zero => rfl
  | succ N ih =>
    have e : ll c (N + 1) = ll c N ++ [p4 c N] := by unfold ll; rw [List.range_succ, List.map_append]; rfl
    rw [e, placesL_snoc, ih, pl_succ]
    rfl
def clearIx (L : List P4) : Int := if (0, 0, 0, 0) ∈ L then (L.idxOf (0, 0, 0, 0) : Nat) else -1
theorem clearIx_ne {L : List P4} {p : P4} (hp : ¬p = (0, 0, 0, 0)) : clearIx (L ++ [p]) = clearIx L := by
  have h0 : ¬((0, 0, 0, 0) : P4) = p := fun h => hp h.symm
  unfold clearIx
  by_cases h : ((0, 0, 0, 0) : P4) ∈ L
  · rw [if_pos (by simp [h]), if_pos h, List.idxOf_append, if_pos h]
  · rw [if_neg (by simp [h]; simpa using h0), if_neg h]
theorem clearIx_eq {L : List P4} {p : P4} (hp : p = (0, 0, 0, 0)) (hn : ¬p ∈ L) : clearIx (L ++ [p]) = (L.length : Nat) := by
  subst hp
  unfold clearIx
  rw [if_pos (by simp), List.idxOf_append, if_neg hn]
  simp
def byteL (l : List Nat) : List Value := l.map fun k => .int .u8 ((k % 256 : Nat) : Int)
theorem uni_snoc (l : List P4) (p : P4) : uni (l ++ [p]) = if p ∈ uni l then uni l else uni l ++ [p] := by
  unfold uni
  rw [List.foldl_append]
  rfl
theorem uni_len (l : List P4) : (uni l).length ≤ l.length := by
  have h : ∀ (l acc : List P4), (l.foldl addP acc).length ≤ acc.length + l.length := by
    intro l
    induction l with
    | nil => intro acc; simp
    | cons x l ih =>
      intro acc
      rw [List.foldl_cons]
      have h1 := ih (addP acc x)
      have h2 : (addP acc x).length ≤ acc.length + 1 := by unfold addP; split <;> simp
      simp only [List.length_cons]
      omega
  simpa [uni] using h l []
theorem klP_key (p : P4) : WideAt.IsKeyLit (klP p) := trivial
/-- The map holds the places of L. -/
def MapIs (D : DataW Unit) (L : List P4) : Prop := IsMap D ∧ ∀ p, w4 p → Maps.has D (klP p) = decide (p ∈ L) ∧ (p ∈ L → D.atKey (klP p) (.lit (.int .i64 0)) = .lit (.int .i64 (L.idxOf p : Nat)))
theorem MapIs.put {D : DataW Unit} {L : List P4} (h : MapIs D L) {p : P4} (hp : w4 p) (hn : p ∉ L) : MapIs (D.put (klP p) (.lit (.int .i64 (L.length : Nat)))) (L ++ [p]) := by
  obtain ⟨hm, hh⟩ := h
  refine ⟨hm.put _ _, fun q hq => ?_⟩
  by_cases e : q = p
  · subst e
    refine ⟨by rw [Maps.has_put_same hm (klP_key _)]; simp, fun _ => ?_⟩
    rw [Maps.atKey_put_same hm (klP_key _), List.idxOf_append, if_neg hn]
    simp
  · have ek : klP q ≠ klP p := fun h => e (klP_inj hq hp h)
    obtain ⟨h1, h2⟩ := hh q hq
    refine ⟨?_, fun hm2 => ?_⟩
    · rw [Maps.has_put_other ek, h1]
      simp [e]
    · have hq2 : q ∈ L := by simpa [e] using hm2
      rw [Maps.atKey_put_other ek, h2 hq2, List.idxOf_append, if_pos hq2]

/-! ### The state of a round -/
theorem lt_heap {W : World} {k : Nat} {o : Obj} (h : W.heap[k]? = some o) : k < W.heap.size := (Array.getElem?_eq_some_iff.1 h).1
section
variable {w2 : World} {m : Nat} {Lm L : List P4} {n : Nat} {cl : Int} {Li : List Nat} {v u : Value} {D : DataW Unit} {W W' : World} {row : Option Nat}
theorem own_apart {w : World} {base : Nat} {e : TypeId} {size k : Nat} {x : Value} {xs : List Value} (h : w.ownsRow base e size x k xs) {r : Nat} (hr : r < base ∨ w.heap.size ≤ r) : x.ownBlock = none ∨ x.ownBlock ≠ some r := by
  cases hx : x.ownBlock with
  | none => exact .inl rfl
  | some g =>
    refine .inr fun e => ?_
    injection e with e
    have := h.lt g hx
    omega
theorem heap_set {W : World} {b i : Nat} {x : Value} {cs : Array Value} {t : TypeId} (h : W.heap[b]? = some (.cells cs t (0, 0))) : (W.setCell ⟨b, i, none⟩ x).heap[b]? = some (.cells (cs.setIfInBounds i x) t (0, 0)) := by
  have hl := (Array.getElem?_eq_some_iff.1 h).1
  have he := (Array.getElem?_eq_some_iff.1 h).2
  unfold World.setCell
  simp [hl, he, Array.getElem_modify]
end
/-! ### What a round keeps -/
def RK (m : Nat) (W W' : World) : Prop := KeepsFrom (m + 6) W W' ∧ KpC m (m + 1 + 1 + 1 + 1) (m + 1 + 1 + 1 + 1 + 1) W W' ∧ W.heap.size ≤ W'.heap.size
section
variable {m : Nat} {W W' W'' : World}
theorem RK.refl (m : Nat) (W : World) : RK m W W := ⟨KeepsFrom.refl _ _, kpC_refl _ _ _ _, Nat.le_refl _⟩
theorem RK.trans (h : RK m W W') (k : RK m W' W'') : RK m W W'' := ⟨h.1.trans k.1, kpC_trans h.2.1 k.2.1, Nat.le_trans h.2.2 k.2.2⟩
theorem RK.of_grown {row : Option Nat} (hs : m + 6 ≤ W.heap.size) (hg : W.grownBy W' row) (hk : KeepsFrom (m + 6) W W') (hr : ∀ r, row = some r → m ≤ r ∧ r ≠ m + 1 + 1 + 1 + 1 ∧ r ≠ m + 1 + 1 + 1 + 1 + 1) : RK m W W' :=
  ⟨hk, ⟨(Below.refl _ _).grown hg (by omega) (fun r e => (hr r e).1), hg.block _ (by omega) (fun e => (hr _ e.symm).2.1 rfl), hg.block _ (by omega) (fun e => (hr _ e.symm).2.2 rfl)⟩, hg.size⟩
theorem RK.drew (h : RK m W W') (hs : m + 6 ≤ W.heap.size) : RK m W W'.drew := h.trans (RK.of_grown (Nat.le_trans hs h.2.2) (grown_drewS W' none) ((KeepsOthers.drew W').from _) (fun r e => by cases e))
theorem RK.alloc (h : RK m W W') (hs : m + 6 ≤ W.heap.size) (o : Obj) : RK m W (W'.alloc o) := h.trans (RK.of_grown (Nat.le_trans hs h.2.2) (World.grownBy_alloc W' o none) ((KeepsOthers.alloc W' o).from _) (fun r e => by cases e))
theorem RK.set (h : RK m W W') (hs : m + 6 ≤ W.heap.size) {K : Nat} (hK : m ≤ K ∧ K ≠ m + 1 + 1 + 1 + 1 ∧ K ≠ m + 1 + 1 + 1 + 1 + 1) (i : Nat) (x : Value) : RK m W (W'.setCell ⟨K, i, none⟩ x) :=
  h.trans (RK.of_grown (Nat.le_trans hs h.2.2) (grown_set W' K i x) ((KeepsOthers.setCell W' ⟨K, i, none⟩ x).from _) (fun r e => by cases e; exact hK))
theorem RK.map (h : RK m W W') (hs : m + 6 ≤ W.heap.size) (hg : W'.grownBy W'' (some (m + 1))) : RK m W W'' :=
  h.trans (RK.of_grown (Nat.le_trans hs h.2.2) hg (KeepsFrom.of_grownBy hg (fun j e => by cases e; omega)) (fun r e => by cases e; omega))
theorem RK.app (h : RK m W W') (hs : m + 6 ≤ W.heap.size) {e : TypeId} {size k : Nat} {x : Value} {xs : List Value} (ho : W'.ownsRow (m + 6) e size x k xs) (hg : W'.grownBy W'' x.ownBlock) : RK m W W'' := by
  refine h.trans (RK.of_grown (Nat.le_trans hs h.2.2) hg ((KeepsOthers.of_grownBy hg ?_).from _) (fun r e => by have := (ho.lt r e).1; omega))
  intro j o hj hjo
  rcases ho.2 with ⟨rfl, _⟩ | ⟨g, cap, cur, rfl, hB, hg2, _⟩
  · cases hj
  · cases hj
    rw [hg2] at hjo
    injection hjo with hjo
    subst hjo
    rfl
end
theorem mapIs_nil : MapIs (.map []) [] := ⟨⟨[], rfl⟩, fun p hp => ⟨by simp [Maps.has], fun h => by simp at h⟩⟩
def makeOk (c : Nat → Nat) (N : Nat) (w : World) (e : Ending) (w' : World) : Prop :=
  ∃ v u, e = .returned (.tuple #[.agg #[v, .int .i64 (clearIx (U c N))], u, .bool true]) ∧ w'.ownsRow w.heap.size 47 4 v (U c N).length (cellsP (U c N)) ∧ w'.ownsRow w.heap.size 5 1 u N (byteL (pl c N))

theorem own_end {W : World} {base : Nat} {e : TypeId} {size k : Nat} {v x y : Value} {xs : List Value} {K D : Nat} {q : Option (List Deferred)} (h : W.ownsRow base e size v k xs) (hK : K < base)
    (hD : (((W.setCell ⟨K, 0, none⟩ x).setCell ⟨K, 1, none⟩ y).drew).heap[D]? = some (.deferred q)) : ((((W.setCell ⟨K, 0, none⟩ x).setCell ⟨K, 1, none⟩ y).drew).putObj D (.deferred none)).ownsRow base e size v k xs := by
  have h1 := h.kept (grown_set W K 0 x) (own_apart h (.inl hK))
  have h2 := h1.kept (grown_set _ K 1 y) (own_apart h1 (.inl hK))
  have h3 := h2.kept (grown_drewS _ none) (by cases v.ownBlock <;> simp)
  refine h3.kept (grownBy_putObj' _ D (.deferred none)) ?_
  rcases h3.2 with ⟨rfl, _⟩ | ⟨g, cap, cur, rfl, hB, hg2, _⟩
  · exact .inl rfl
  · refine .inr fun e2 => ?_
    injection e2 with e2
    subst e2
    rw [hg2] at hD
    cases hD
theorem wpListIn_app {F : Fence} {n : Nat} {P : Program} {w : World} {ops : Array Oper} {rest : List Oper} {o : Oper} {a : Act} {Q : Exit → Act → World → Prop} (hg : o.guard = none) (s x : Operand) (t : TypeId)
    (hop : o.op = Op.call { callee := Callee.builtin Builtin.append, args := #[s, x], argTypes := #[t, t] }) (v sv v' : Value) (w' : World) (hs : a.eval s = v) (hx : a.eval x = sv)
    (hrun : (Builtin.append_ #[t, t] o.type #[v, sv]).run P w = .ok v' w') (hK : wpListIn F n P ops Q rest (a.put o.dst v') w') : wpListIn F n P ops Q (o :: rest) a w := by
  refine wpListIn_plain hg fun K hK' => ?_
  unfold Oper.wpIn
  refine ⟨?_, ?_⟩
  · simp [Oper.about, hop, resolve, Target.leads, Sem.run_pure]
  · rw [Oper.semAt_plain F _ _ (by rw [hop]; intro c hc'; cases hc')]
    simp [execOp, hop, resolve, invoke, builtin, hs, hx, hrun, Result.andThen]
    exact hK' _ _ hK
theorem info5 : (Try.prog.info? 5).map (fun i => (i.zero, i.size, i.bytes)) = some (some (.int .u8 0), 1, 1) := by kernel_rfl
/-- append(out, x) of one cell, to a row that is one's own. -/
theorem run_app1 {w : World} {base : Nat} {t ty e : TypeId} {i : TypeInfo} {z : Value} {size bytes : Nat} (ht : Try.prog.underlying t = some (.slice e)) (hi : Try.prog.info? e = some i) (hz : i.zero = some z)
    (hsize : i.size = size) (hby : i.bytes = bytes) (hzs : z.cells.size = size) (hsz : 0 < size) {v : Value} {n : Nat} {xs : List Value} (hown : w.ownsRow base e size v n xs)
    {K : Nat} {cs : List Value} {te : TypeId} (hK : w.heap[K]? = some (.cells cs.toArray te (0, 0))) (hl : cs.length = size) (h1 : ∀ u ∈ cs, u.oneCell' = true) (h63 : n + 1 ≤ maxLen) (hbytes : (n + 1) * bytes ≤ 140737488355328) (hbase : base ≤ w.heap.size) :
    ∃ v' w', (Builtin.append_ #[t, t] ty #[v, .slice (some ⟨K, 0, none⟩) 1 1]).run Try.prog w = .ok v' w' ∧ w'.ownsRow base e size v' (n + 1) (xs ++ cs) ∧ w.grownBy w' v.ownBlock ∧ (v'.ownBlock = v.ownBlock ∨ v'.ownBlock = some w.heap.size) :=
  run_app base t ty e i z size bytes ht hi hz hsize hby hzs hsz v n xs hown (some ⟨K, 0, none⟩) 1 1 cs (fun h => by cases h) (by omega)
    (fun _ => ⟨K, 0, rfl, fun j u hj => by rw [Nat.zero_add]; exact hp_cell hK (by rw [List.getElem?_toArray]; exact hj)⟩) h1 h63 hbytes hbase
theorem lit_int_inj {x y : Int} (h : (DataW.lit (.int .i64 x) : DataW Unit) = .lit (.int .i64 y)) : x = y := by injection h with h; injection h
theorem zeroE (w : World) : (zeroValue 3).run Try.prog w = .ok (.int .i64 0) w := by kernel_rfl
def Boxed2 (W : World) (b : Nat) (t : TypeId) (x y : Value) : Prop := W.heap[b]? = some (.cells #[x, y] t (0, 0))
theorem results_c2t {fn : Func} {p u x : Tmp} {ty : TypeId} (h : fn.results = #[.cell p ty, .tmp u, .tmp x]) (tmps : Array Value) (P : Program) (w : World) :
    (results fn tmps).run P w =
      ((asAddr (tmps.getD p undef)).run P w).andThen fun a w₁ => ((loadVar ty a).run P w₁).andThen fun v w₂ => .ok (.tuple #[v, tmps.getD u undef, tmps.getD x undef]) w₂ := by
  simp only [results, h]
  simp [Sem.run_bind, Result.andThen]
theorem hp_put {W : World} {D b : Nat} {o o' : Obj} (h : W.heap[b]? = some o') (hne : b ≠ D) : (W.putObj D o).heap[b]? = some o' := (World.putObj_heap_other (by omega)).trans h
end Go.Proofs.Ytkjlejkcedemlaa

namespace Go.Proofs.Ytkjlejkcedemlaa
set_option maxRecDepth 100000
set_option linter.unusedVariables false
open Go.ChangeShapes Go.WideShapes Go.ChangeAt Go.RowKit

theorem uni_nodup' (l : List P4) : (uni l).Nodup := by
  have h : ∀ (l acc : List P4), acc.Nodup → (l.foldl addP acc).Nodup := by
    intro l
    induction l with
    | nil => intro acc ha; exact ha
    | cons x l ih =>
      intro acc ha
      rw [List.foldl_cons]
      refine ih _ ?_
      unfold addP
      split
      · exact ha
      · rename_i hx
        rw [List.nodup_append]
        refine ⟨ha, by simp, fun a h1 b h2 => ?_⟩
        simp at h2
        subst h2
        intro e
        subst e
        exact hx h1
  exact h l [] (by simp)
theorem clear_take {L : List P4} (hL : L.Nodup) {k : Nat} {q : P4} (hq : L[k]? = some q) : clearIx (L.take (k + 1)) = if q = (0, 0, 0, 0) then (k : Int) else clearIx (L.take k) := by
  have hk := (List.getElem?_eq_some_iff.1 hq).1
  have he := (List.getElem?_eq_some_iff.1 hq).2
  rw [List.take_succ_eq_append_getElem hk, he]
  by_cases hz : q = (0, 0, 0, 0)
  · rw [if_pos hz, clearIx_eq hz]
    · rw [List.length_take]; congr 1; omega
    · intro hm
      obtain ⟨j, hj, e⟩ := List.getElem_of_mem hm
      have hj2 : j < k := by rw [List.length_take] at hj; omega
      rw [List.getElem_take] at e
      have h2 := List.pairwise_iff_getElem.1 hL j k (by omega) hk hj2
      exact h2 (e.trans he.symm)
  · rw [if_neg hz, clearIx_ne hz]

set_option maxRecDepth 100000 in
set_option maxHeartbeats 2000000 in
theorem maker_yes (a b : Int) (bk off cap : Nat) (c : Nat → Nat) (hc : ∀ i, c i < 65536) (N : Nat) (ha : In64 a) (hb : In64 b) (hfit : fitsB a b (4 * N) c 2 = true) (hN1 : 1 ≤ N) (hN2 : N ≤ 16384) (hcap : 4 * N ≤ cap) (hmax : cap ≤ maxLen)
    (w : World) (hbk : bk < w.heap.size) (hcells : ∀ j, j < 4 * N → w.cell? ⟨bk, off + j, none⟩ = some (.int .u16 (c j : Nat))) :
    Calls Try.prog 29 #[.agg #[.int .i64 a, .int .i64 b, .slice (some ⟨bk, off, none⟩) (4 * N) cap]] w fun e w' => makeOk c N w e w' ∧ Below w.heap.size w w' := by
  obtain ⟨q0, q1, q2, q3⟩ := two_boxes w #[.int .i64 a, .int .i64 b, .slice (some ⟨bk, off, none⟩) (4 * N) cap] #[.slice none 0 0, .int .i64 0] 26 67
  obtain ⟨i5, hi5, hz50, hz51, hz52⟩ := info_parts info5
  have hP : Pix w (some ⟨bk, off, none⟩) (4 * N) c := fun _ => ⟨bk, off, rfl, hbk, hcells⟩
  have hm := fits_may hfit
  have hle : ((U c N).length : Int) ≤ 256 := by
    have h1 := hfit
    simp only [fitsB, Bool.and_eq_true, Bool.or_eq_true, decide_eq_true_eq] at h1
    obtain ⟨_, (h | h) | h⟩ := h1
    · exact absurd h (by decide)
    · exact absurd h.1 (by decide)
    · have h2 := h.2.1
      rw [Nat.mul_div_cancel_left _ (by omega), colB_U hc] at h2
      simpa using h2
  have HF := Lib.hid hfit
  have HM := Lib.hid hm
  have HC := Lib.hid hc
  have hPw := hP.below q3
  clear hfit hm hc hP hcells
  go_enter Try.func29, Try.ntmps29
  go_wp2_with fail
  refine (fits_ref a b _ (4 * N) cap c 2 HC.out ha hb (by unfold In64; omega) hcap hmax _ hPw).mono ?_
  rintro e w2 ⟨rfl, hB⟩
  rw [HF.out]
  have hPw2 := hPw.below hB
  rw [q0] at hB
  have r1 := hp_below q1 hB (by omega)
  have r2 := hp_below q2 hB (by omega)
  have HB := Lib.hid (q3.trans (hB.mono (by omega)))
  have hs2 := hB.size
  rw [q0] at hs2
  have k0 := hp_cell (j := 0) r1 rfl
  have k1 := hp_cell (j := 1) r1 rfl
  have k2 := hp_cell (j := 2) r1 rfl
  clear hB q0 q1 q2 q3 hPw
  obtain ⟨_, _, he, hbk2, hcl2⟩ := hPw2 (by omega)
  cases he
  have HCL := Lib.hid hcl2
  clear hcl2 hPw2
  go_wp2_with fail
  refine (list_ref a b bk off cap c HC.out N 256 ha hb HM.out hN1 hN2 hcap hmax _ hbk2 HCL.out).mono ?_
  rintro e w3 ⟨⟨_, v, u, rfl, rv, ru⟩ | ⟨hgt, rfl⟩, hB⟩
  case inr => exact absurd hle hgt
  obtain ⟨_, Av, cv, rfl, hcv1, hcv2, _⟩ := Sl.of_own rv
  obtain ⟨_, Au, cu, rfl, hcu1, hcu2, _⟩ := Sl.of_own ru
  have r2' := hp_below r2 hB (by omega)
  have hB3 := HB.out.trans (hB.mono HB.out.size)
  have hs3 := hB.size
  have HB3 := Lib.hid hB3
  have hnd := Lib.hid (uni_nodup' (ll c N))
  have hLN : (U c N).length ≤ 256 := by omega
  clear k0 k1 k2 r1 r2 hB hB3 HCL hle
  go_wp2_with fail
  have hrvw : ∀ W, Below w3.heap.size w3 W → Sl W (.slice Av (U c N).length cv) 4 (U c N).length (cellsP (U c N)) := fun W h => (Sl.of_own rv).below h
  have HRV := Lib.hid hrvw
  have HR := Lib.hid rv
  have HU := Lib.hid ru
  clear hrvw rv ru
  unfold maxLen at hcv2 hcu2
  obtain ⟨L, hL⟩ : ∃ L, L = U c N := ⟨_, rfl⟩
  have HLe := Lib.hid hL
  rw [show (U c N).length = L.length by rw [hL]] at *
  clear hL
  go_loopw [9] (fun x wr => ∃ k : Nat, k ≤ L.length ∧ x = .int .i64 k ∧ Below w3.heap.size w3 wr ∧ wr.heap[w3.heap.size]? = some (.cells #[.slice Av L.length cv, .int .i64 (clearIx (L.take k))] 67 (0, 0))) (fun x _ => L.length - (intOf x).toNat)
  case atStart => exact ⟨0, by omega, rfl, (Below.refl _ _).alloc (Nat.le_refl _) _, hp_new0 _ _⟩
  case round =>
    obtain ⟨k, hk, rfl, hB, hbx⟩ := hrel
    have b0 := hp_cell (j := 0) hbx rfl
    have b1 := hp_cell (j := 1) hbx rfl
    have bf : ∀ j, wr.frozen? ⟨w3.heap.size, j, none⟩ = false := fun j => by simp [World.frozen?, hbx]
    by_cases hlt : k < L.length
    · obtain ⟨q, hq⟩ : ∃ q, L[k]? = some q := ⟨L[k], List.getElem?_eq_getElem hlt⟩
      have hsl := HRV.out wr hB
      rw [← HLe.out] at hsl
      obtain ⟨gb, go, he, hgl, hgc⟩ := hsl.cell (by omega)
      subst he
      have hqc : ∀ j, j < 4 → wr.cell? ⟨gb, go + k * 4 + j, none⟩ = (cP q)[j]? := fun j hj => by
        rw [Nat.add_assoc, hgc (k * 4 + j) (by omega), cellsP_get L k q hq j hj]
      have c0 : wr.cell? ⟨gb, go + k * 4, none⟩ = some (.int .u16 (q.1 : Nat)) := hqc 0 (by omega)
      have c1 : wr.cell? ⟨gb, go + k * 4 + 1, none⟩ = some (.int .u16 (q.2.1 : Nat)) := hqc 1 (by omega)
      have c2 : wr.cell? ⟨gb, go + k * 4 + 2, none⟩ = some (.int .u16 (q.2.2.1 : Nat)) := hqc 2 (by omega)
      have c3 : wr.cell? ⟨gb, go + k * 4 + 3, none⟩ = some (.int .u16 (q.2.2.2 : Nat)) := hqc 3 (by omega)
      have hct := clear_take (L := L) (by rw [HLe.out]; exact hnd.out) hq
      have hE := fun W => run_eq_zero q W
      by_cases hz : q = (0, 0, 0, 0)
      · rw [show decide (q = (0, 0, 0, 0)) = true from by simp [hz]] at hE
        rw [if_pos hz] at hct
        have HCT := Lib.hid hct
        have hB4 := hB.setCell (p := ⟨w3.heap.size, 1, none⟩) (Nat.le_refl _) (.int .i64 (k : Nat))
        have hb4 := heap_set (i := 1) (x := .int .i64 (k : Nat)) hbx
        have HB4 := Lib.hid hB4
        have Hb4 := Lib.hid hb4
        clear hz hct hqc hgc hq hB4 hb4 hsl
        go_wp2_with fail
        go_roundw
        case rel => exact ⟨k + 1, by omega, by go_num, HB4.out, by rw [HCT.out]; exact Hb4.out⟩
        case measure => simp [intOf]; omega
      · rw [show decide (q = (0, 0, 0, 0)) = false from by simp [hz]] at hE
        rw [if_neg hz] at hct
        have HCT := Lib.hid hct
        clear hz hct hqc hgc hq hsl
        go_wp2_with fail
        go_roundw
        case rel => exact ⟨k + 1, by omega, by go_num, hB, by rw [HCT.out]; exact hbx⟩
        case measure => simp [intOf]; omega
    · obtain rfl : k = L.length := by omega
      rw [List.take_length] at hbx
      have hsw : w3.heap.size < wr.heap.size := lt_heap hbx
      have hsu := (Sl.of_own HU.out).below hB
      have HBw := Lib.hid hB
      have HBX := Lib.hid hbx
      clear hB hbx b0 b1 bf
      go_wp2_with fail
      rename World => wo
      go_loopw [10, 11] (fun b x wr => ∃ k : Nat, k ≤ N ∧ x = .int .i64 k ∧ wr.ownsRow wo.heap.size 5 1 b k (byteL ((pl c N).take k)) ∧ Below wo.heap.size wo wr) (fun _ x _ => N - (intOf x).toNat)
      case atStart => exact ⟨0, by omega, rfl, World.ownsRow_nil _ _ _ _, Below.refl _ _⟩
      case round =>
        obtain ⟨k, hk, rfl, hown, hB⟩ := hrel
        by_cases hlt : k < N
        · obtain ⟨q, hq⟩ : ∃ q, (pl c N)[k]? = some q := ⟨(pl c N)[k]'(by rw [pl_len]; exact hlt), List.getElem?_eq_getElem _⟩
          obtain ⟨gb, go, he, hgl, hgc⟩ := (hsu.below hB).cell (by omega)
          subst he
          have c0 : wr.cell? ⟨gb, go + k, none⟩ = some (.int .i64 (q : Nat)) := by rw [hgc k (by omega)]; simp [cellsI, hq]
          have hkb : ((q % 256 : Nat) : Int) = (q : Int) % 256 := by omega
          have htk : byteL ((pl c N).take (k + 1)) = byteL ((pl c N).take k) ++ [.int .u8 ((q : Int) % 256)] := by
            rw [List.take_add_one, hq, ← hkb]; simp [byteL]
          have hal := (Below.refl wr.heap.size wr).alloc (Nat.le_refl _) (.cells #[.int .u8 ((q : Int) % 256)] 5)
          have hwr := hB.size
          have HTK := Lib.hid htk
          clear htk hkb hgc hq
          go_wp2_with (at_builtin; refine wpList_append_own_at _ rfl _ _ 22 rfl wo.heap.size 5 i5 _ 1 1 Try.underlying22 hi5 hz50 hz51 hz52 rfl (by decide) _ _ _ rfl (hown.alloc _) ⟨wr.heap.size, 0, none⟩ 1 1 [.int .u8 ((q : Int) % 256)] rfl rfl ?c1 ?c2 ?c3 ?c4 ?c5 ?_)
          case c1 => exact fun j u h => one_new (w := wr) 0 h
          case c2 => intro u hu; simp at hu; subst hu; rfl
          case c3 => unfold maxLen; omega
          case c4 => omega
          case c5 => simp; omega
          intro u2 w4 hown' hgrow _ hat
          have hB4 := (hB.trans (hal.mono hwr)).grown hgrow (by simp; omega) (fun g hg => (hown.lt g hg).1)
          rw [← HTK.out] at hown'
          clear hgrow hat hal
          go_wp2_with fail
          go_roundw
          case rel => exact ⟨k + 1, by omega, by go_num, hown', hB4⟩
          case measure => simp [intOf]; omega
        · obtain rfl : k = N := by omega
          rw [List.take_of_length_le (by rw [pl_len]; omega)] at hown
          have hbx := hp_below HBX.out hB hsw
          have p0 := hp_cell (j := 0) hbx rfl
          have p1 := hp_cell (j := 1) hbx rfl
          have hBf := HB3.out.trans ((HBw.out.trans (hB.mono HBw.out.size)).mono HB3.out.size)
          have hrv2 := own_none (own_none HR.out HBw.out) (hB.mono (Nat.le_refl _))
          have r3 := hp_below (hp_below r2' HBw.out (by omega)) hB (by omega)
          have t0 := hp_cell (j := 0) r3 rfl
          have t1 := hp_cell (j := 1) r3 rfl
          have tf : ∀ j, wr.frozen? ⟨w.heap.size + 1, j, none⟩ = false := fun j => by simp [World.frozen?, r3]
          rw [HLe.out] at hrv2
          have HRV2 := Lib.hid hrv2
          have hws := HB3.out.size
          clear hbx hrv2
          go_wp2_with fail
          refine bodyPost_ret (v := .tuple #[.agg #[.slice Av L.length cv, .int .i64 (clearIx L)], u10, .bool true]) (by rw [results_c2t rfl]; go_simp) rfl ?_
          refine ⟨⟨.slice Av L.length cv, u10, by rw [HLe.out], ?_, ?_⟩, (hBf.setCell (p := ⟨w.heap.size + 1, 0, none⟩) (by simp) _).setCell (p := ⟨w.heap.size + 1, 1, none⟩) (by simp) _⟩
          · have h1 := HRV2.out.kept (grown_set wr (w.heap.size + 1) 0 (.slice Av L.length cv)) (own_apart HRV2.out (.inl (by omega)))
            have h2 := h1.kept (grown_set _ (w.heap.size + 1) 1 (.int .i64 (clearIx L))) (own_apart h1 (.inl (by omega)))
            rw [← HLe.out] at h2 ⊢
            exact own_le' (by omega) h2
          · have h1 := hown.kept (grown_set wr (w.heap.size + 1) 0 (.slice Av L.length cv)) (own_apart hown (.inl (by omega)))
            have h2 := h1.kept (grown_set _ (w.heap.size + 1) 1 (.int .i64 (clearIx L))) (own_apart h1 (.inl (by omega)))
            exact own_le' (by omega) h2

set_option maxRecDepth 100000 in
set_option maxHeartbeats 1000000 in
theorem maker_no (a b : Int) (A : Option Addr) (n cap : Nat) (c : Nat → Nat) (hc : ∀ i, c i < 65536) (ha : In64 a) (hb : In64 b) (hfit : fitsB a b n c 2 = false) (hn : n ≤ cap) (hmax : cap ≤ maxLen) (w : World) (hP : Pix w A n c) :
    Calls Try.prog 29 #[.agg #[.int .i64 a, .int .i64 b, .slice A n cap]] w fun e w' => e = .returned (.tuple #[.agg #[.slice none 0 0, .int .i64 0], .slice none 0 0, .bool false]) ∧ Below w.heap.size w w' := by
  obtain ⟨q0, q1, q2, q3⟩ := two_boxes w #[.int .i64 a, .int .i64 b, .slice A n cap] #[.slice none 0 0, .int .i64 0] 26 67
  have HF := Lib.hid hfit
  have HC := Lib.hid hc
  have hPw := hP.below q3
  clear hfit hc hP
  go_enter Try.func29, Try.ntmps29
  go_wp2_with fail
  refine (fits_ref a b A n cap c 2 HC.out ha hb (by unfold In64; omega) hn hmax _ hPw).mono ?_
  rintro e w2 ⟨rfl, hB⟩
  rw [HF.out]
  rw [q0] at hB
  have r2 := hp_below q2 hB (by omega)
  have t0 := hp_cell (j := 0) r2 rfl
  have t1 := hp_cell (j := 1) r2 rfl
  have tf : ∀ j, w2.frozen? ⟨w.heap.size + 1, j, none⟩ = false := fun j => by simp [World.frozen?, r2]
  have HB := Lib.hid (q3.trans (hB.mono (by omega)))
  clear hB q0 q1 q2 q3 r2 hPw
  go_wp2
  refine bodyPost_ret (v := .tuple #[.agg #[.slice none 0 0, .int .i64 0], .slice none 0 0, .bool false]) (by rw [results_c2t rfl]; go_simp) rfl ?_
  exact ⟨rfl, (HB.out.setCell (p := ⟨w.heap.size + 1, 0, none⟩) (by simp) _).setCell (p := ⟨w.heap.size + 1, 1, none⟩) (by simp) _⟩
end Go.Proofs.Ytkjlejkcedemlaa

namespace Go.Proofs.Ytkjlejkcedemlaa
set_option maxRecDepth 100000
set_option linter.unusedVariables false
open Go.ChangeShapes Go.WideShapes Go.ChangeAt Go.RowKit

theorem in_cases (a b : Int) (n : Nat) (x y : Int) :
    (mayB a b n = false) ∨ (mayB a b n = true ∧ x < 0) ∨ (mayB a b n = true ∧ 0 ≤ x ∧ y < 0) ∨ (mayB a b n = true ∧ 0 ≤ x ∧ 0 ≤ y ∧ a ≤ x) ∨ (mayB a b n = true ∧ 0 ≤ x ∧ 0 ≤ y ∧ x < a ∧ b ≤ y) ∨ (mayB a b n = true ∧ 0 ≤ x ∧ 0 ≤ y ∧ x < a ∧ y < b) := by
  cases mayB a b n
  · exact .inl rfl
  · simp
    omega
/-- The three boxes of At. -/
theorem three_boxes (w : World) (cs c1 c2 : Array Value) (t t1 t2 : TypeId) : let W := ((w.alloc (.cells cs t)).alloc (.cells c1 t1)).alloc (.cells c2 t2)
    W.heap.size = w.heap.size + 3 ∧ W.heap[w.heap.size]? = some (.cells cs t (0, 0)) ∧ W.heap[w.heap.size + 1]? = some (.cells c1 t1 (0, 0)) ∧ W.heap[w.heap.size + 1 + 1]? = some (.cells c2 t2 (0, 0)) ∧ Below w.heap.size w W := by
  intro W
  have h1 := hp_new0 (w.alloc (.cells cs t)) (.cells c1 t1)
  have h2 := hp_new0 ((w.alloc (.cells cs t)).alloc (.cells c1 t1)) (.cells c2 t2)
  simp only [World.size_alloc] at h1 h2
  exact ⟨by simp [W, World.size_alloc], hp_alloc _ (hp_alloc _ (hp_new0 _ _)), hp_alloc _ h1, h2, (((Below.refl _ w).alloc (Nat.le_refl _) _).alloc (by simp) _).alloc (by simp; omega) _⟩

end Go.Proofs.Ytkjlejkcedemlaa
