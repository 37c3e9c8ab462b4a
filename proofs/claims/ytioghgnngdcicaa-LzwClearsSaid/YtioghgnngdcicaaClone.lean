/- Rows of one's own that slices are appended to; bytes.Clone; new readers. -/
import Derived.Test.YtioghgnngdcicaaObj
import Derived.Test.YtioghgnngdcicaaOpen
import Derived.Deep.RegionHeld3
import Derived.Deep.AppendLies
namespace Go.Proofs.Ytioghgnngdcicaa
set_option linter.unusedVariables false
open Go.ChangeShapes Go.WideShapes Go.ChangeAt Go.RowKit

theorem info_parts {P : Program} {t : TypeId} {z : Option Value} {s b : Nat} (h : (P.info? t).map (fun i => (i.zero, i.size, i.bytes)) = some (z, s, b)) : ∃ i, P.info? t = some i ∧ i.zero = z ∧ i.size = s ∧ i.bytes = b := by
  obtain ⟨i, hi, he⟩ := Option.map_eq_some_iff.1 h
  cases he
  exact ⟨i, hi, rfl, rfl, rfl⟩
theorem info8 : (Try.prog.info? 5).map (fun i => (i.zero, i.size, i.bytes)) = some (some (.int .u8 0), 1, 1) := by kernel_rfl
/-- append to a row of one's own, whatever slice is appended. -/
theorem run_app {P : Program} {w : World} (base : Nat) (t ty e : TypeId) (i : TypeInfo) (z : Value) (size bytes : Nat) (ht : P.underlying t = some (.slice e)) (hi : P.info? e = some i) (hz : i.zero = some z)
    (hsize : i.size = size) (hby : i.bytes = bytes) (hzs : z.cells.size = size) (hsz : 0 < size)
    (v : Value) (n : Nat) (xs : List Value) (hown : w.ownsRow base e size v n xs)
    (A : Option Addr) (m c : Nat) (news : List Value) (hA : A = none → c = 0) (hl : news.length = m * size) (hnews : 0 < m → ∃ b off, A = some ⟨b, off, none⟩ ∧ ∀ j u, news[j]? = some u → w.cell? ⟨b, off + j, none⟩ = some u) (h1 : ∀ u ∈ news, u.oneCell' = true)
    (h63 : n + m ≤ maxLen) (hbytes : (n + m) * bytes ≤ 140737488355328) (hbase : base ≤ w.heap.size) :
    ∃ v' w', (Builtin.append_ #[t, t] ty #[v, .slice A m c]).run P w = .ok v' w' ∧ w'.ownsRow base e size v' (n + m) (xs ++ news) ∧ w.grownBy w' v.ownBlock ∧ (v'.ownBlock = v.ownBlock ∨ v'.ownBlock = some w.heap.size) := by
  cases A with
  | none =>
    have hm : m = 0 := by
      apply Nat.eq_zero_of_not_pos
      intro h
      obtain ⟨b, off, he, _⟩ := hnews h
      cases he
    have hc := hA rfl
    subst hm hc
    have hn : news = [] := List.eq_nil_of_length_eq_zero (by omega)
    subst hn
    exact ⟨v, w, run_append_owned_none w base t ty e i size ht hi v n xs hown, by simpa using hown, ⟨rfl, rfl, rfl, Nat.le_refl _, fun _ _ _ => rfl⟩, .inl rfl⟩
  | some ad =>
    have hcell : ∀ j u, news[j]? = some u → w.cell? (ad.add j) = some u := by
      intro j u hj
      have hm : 0 < m := by
        apply Nat.pos_of_ne_zero
        intro h
        rw [h, Nat.zero_mul] at hl
        rw [List.eq_nil_of_length_eq_zero hl] at hj
        simp at hj
      obtain ⟨b, off, he, hc⟩ := hnews hm
      cases he
      rw [Addr.add_lit]
      exact hc j u hj
    obtain ⟨v', w', g1, g2, g3, _, g5⟩ := run_append_own_at w base t ty e i z size bytes ht hi hz hsize hby hzs hsz v n xs hown ad m c news hl hcell h1 h63 hbytes hbase
    exact ⟨v', w', g1, g2, g3, g5⟩

theorem wpList_app {P : Program} {w : World} {ops : Array Oper} {rest : List Oper} {o : Oper} {a : Act} {Q : Exit → Act → World → Prop} (hgd : o.guard = none) (s x : Operand) (t : TypeId)
    (ho : o.op = .call { callee := .builtin .append, args := #[s, x], argTypes := #[t, t] }) (v sv v' : Value) (w' : World) (hs : a.eval s = v) (hx : a.eval x = sv)
    (hrun : (Builtin.append_ #[t, t] o.type #[v, sv]).run P w = .ok v' w') (h : wpList P ops Q rest (a.put o.dst v') w') : wpList P ops Q (o :: rest) a w := by
  refine wpList_plain hgd fun K hK => ?_
  unfold Oper.wp
  simp [execOp, ho, resolve, invoke, builtin, hs, hx, hrun, Result.andThen]
  exact hK _ _ h
theorem step_app {P : Program} {w : World} {ops : Array Oper} {o : Oper} {a : Act} {K : Act → World → Prop} {Q : Exit → Act → World → Prop} {E : Prop} (hgd : o.guard = none) (s x : Operand) (t : TypeId)
    (ho : o.op = .call { callee := .builtin .append, args := #[s, x], argTypes := #[t, t] }) (v sv v' : Value) (w' : World) (hs : a.eval s = v) (hx : a.eval x = sv)
    (hrun : (Builtin.append_ #[t, t] o.type #[v, sv]).run P w = .ok v' w') (h : K (a.put o.dst v') w') : if Region.wanted o (yielded ops a.tmps) = true then Oper.wp P o a w K Q else E := by
  have hw : Region.wanted o (yielded ops a.tmps) = true := by simp [Region.wanted, hgd]
  rw [if_pos hw]
  unfold Oper.wp
  simp [execOp, ho, resolve, invoke, builtin, hs, hx, hrun, Result.andThen]
  exact h

def cells8 (n : Nat) (b : Nat → Nat) : List Value := (List.range n).map fun j => .int .u8 (b j : Nat)
theorem cells8_get (n : Nat) (b : Nat → Nat) (j : Nat) (hj : j < n) : (cells8 n b)[j]? = some (.int .u8 (b j : Nat)) := by simp [cells8, hj]
theorem cells8_one (n : Nat) (b : Nat → Nat) : ∀ u ∈ cells8 n b, u.oneCell' = true := by
  intro u hu
  obtain ⟨j, _, rfl⟩ := List.mem_map.1 hu
  rfl
theorem byt_news {w : World} {A : Option Addr} {n : Nat} {b : Nat → Nat} (h : Byt w A n b) : 0 < n → ∃ bk off, A = some ⟨bk, off, none⟩ ∧ ∀ j u, (cells8 n b)[j]? = some u → w.cell? ⟨bk, off + j, none⟩ = some u := fun hn => by
  obtain ⟨bk, off, rfl, hlt, hc⟩ := h hn
  refine ⟨bk, off, rfl, fun j u hj => ?_⟩
  have hj' : j < n := by have := (List.getElem?_eq_some_iff.1 hj).1; simpa [cells8] using this
  rw [cells8_get n b j hj'] at hj
  rw [hc j hj', hj]
theorem own_empty (w : World) : (w.alloc (.cells #[] 5)).ownsRow w.heap.size 5 1 (.slice (some ⟨w.heap.size, 0, none⟩) 0 0) 0 [] :=
  ⟨rfl, .inr ⟨w.heap.size, 0, #[], rfl, Nat.le_refl _, hp_new0 w _, Nat.le_refl _, by simp [maxLen], rfl, rfl⟩⟩
/-- A row of n bytes in a block from B on. -/
structure NewB (B : Nat) (w : World) (n : Nat) (A : Option Addr) (cap : Nat) (b : Nat → Nat) : Prop where
  le : n ≤ cap
  max : cap ≤ maxLen
  nil : A = none → cap = 0
  byt : Byt w A n b
  far : ∀ a, A = some a → B ≤ a.block
  lt : ∀ a, A = some a → a.block < w.heap.size
  form : ∀ a, A = some a → a = ⟨a.block, 0, none⟩
theorem NewB.of_own {B : Nat} {w : World} {n : Nat} {v : Value} {b : Nat → Nat} (h : w.ownsRow B 5 1 v n (cells8 n b)) : ∃ A cap, v = .slice A n cap ∧ NewB B w n A cap b := by
  obtain ⟨hl, hf⟩ := h
  rcases hf with ⟨rfl, rfl⟩ | ⟨g, cap, cur, rfl, hB, hg, hnc, hcm, hcs, ht⟩
  · exact ⟨none, 0, rfl, Nat.le_refl _, by simp [maxLen], fun _ => rfl, fun h => absurd h (by omega), (fun a h => by cases h), (fun a h => by cases h), (fun a h => by cases h)⟩
  · refine ⟨some ⟨g, 0, none⟩, cap, rfl, hnc, hcm, (fun h => by cases h), fun hn => ⟨g, 0, rfl, lt_heap hg, fun j hj => ?_⟩, (fun a h => by cases h; exact hB), (fun a h => by cases h; exact lt_heap hg), (fun a h => by cases h; rfl)⟩
    rw [Nat.zero_add]
    refine hp_cell hg ?_
    have h1 := congrArg (fun l => l[j]?) ht
    simp only [List.getElem?_take, show j < n * 1 by omega, if_true] at h1
    rw [← Array.getElem?_toList, h1, cells8_get n b j hj]
theorem Off.of_far {A : Option Addr} {B : Nat} (h : ∀ a, A = some a → B ≤ a.block) {S : List Nat} (hS : ∀ k ∈ S, k < B) : Off A S := fun a ha hm => by have h1 := h a ha; have h2 := hS _ hm; omega
set_option maxRecDepth 100000 in
set_option maxHeartbeats 1000000 in
theorem clone_prog (A : Option Addr) (n cap : Nat) (b : Nat → Nat) (hn : n ≤ cap) (hmax : cap ≤ maxLen) (hz : A = none → cap = 0) (hsmall : n ≤ 1000000) (w : World) (hP : Byt w A n b) :
    Calls Try.prog 35 #[.slice A n cap] w fun e w' => ∃ A' cap', e = .returned (.slice A' n cap') ∧ NewB w.heap.size w' n A' cap' b ∧ Below w.heap.size w w' := by
  obtain ⟨i0, hi, hz0, hz1, hz2⟩ := info_parts info8
  cases A with
  | none =>
    have hc0 := hz rfl
    subst hc0
    obtain rfl : n = 0 := by omega
    have e0 := fun (w : World) => Lib.run_eql_slice_nil (P := Try.prog) w 22 5 none 0 0 0 0 Try.underlying22
    go_enter Try.func35, Try.ntmps35
    go_wp2
    go_ret
    exact ⟨none, 0, rfl, ⟨Nat.le_refl _, by simp [maxLen], fun _ => rfl, fun h => absurd h (by omega), (fun a h => by cases h), (fun a h => by cases h), (fun a h => by cases h)⟩, Below.refl _ _⟩
  | some ad =>
    have e0 := fun (w : World) => Lib.run_eql_slice_nil (P := Try.prog) w 22 5 (some ad) n cap 0 0 Try.underlying22
    go_enter Try.func35, Try.ntmps35
    obtain ⟨v', w2, hrun, hown, hgr, hat⟩ := run_app (P := Try.prog) (w := w.alloc (.cells #[] 5)) w.heap.size 22 22 5 i0 _ 1 1 Try.underlying22 hi hz0 hz1 hz2 rfl (by omega) (.slice (some ⟨w.heap.size, 0, none⟩) 0 0) 0 [] (own_empty w) (some ad) n cap (cells8 n b) hz (by simp [cells8]) (byt_news (hP.below ((Below.refl _ _).alloc (Nat.le_refl _) _))) (cells8_one n b) (by unfold maxLen; omega) (by omega) (by simp)
    rw [Nat.zero_add, List.nil_append] at hown
    obtain ⟨A', cap', rfl, hR⟩ := NewB.of_own hown
    have HR := Lib.hid hR
    have HB := Lib.hid (((Below.refl _ w).alloc (Nat.le_refl _) _).grown hgr (by simp) (fun g hg => by cases hg; exact Nat.le_refl _))
    clear hown hgr hat hR
    go_wp2_with (at_builtin; refine wpList_app rfl _ _ 22 rfl _ _ _ w2 rfl rfl hrun ?_)
    go_ret
    exact ⟨_, _, rfl, HR.out, HB.out⟩
set_option maxRecDepth 100000 in
set_option maxHeartbeats 1000000 in
theorem newL (A : Option Addr) (n cap : Nat) (b : Nat → Nat) (hn : n ≤ cap) (hmax : cap ≤ maxLen) (hz : A = none → cap = 0) (hsmall : n ≤ 1000000) (w : World) (hP : Byt w A n b) :
    Calls Try.prog 29 #[.slice A n cap] w fun e w' => ∃ g A' cap', e = .returned (.pointer (some ⟨g, 0, none⟩)) ∧ w.heap.size ≤ g ∧ Rd 76 g A' n cap' b 0 (.slice none 0 0) 0 w' ∧ (∀ a, A' = some a → w.heap.size ≤ a.block ∧ a.block < w'.heap.size) ∧ Below w.heap.size w w' := by
  go_enter Try.func29, Try.ntmps29
  go_wp2_with fail
  refine (clone_prog A n cap b hn hmax hz hsmall _ hP).mono ?_
  rintro e w1 ⟨A', cap', rfl, hN, hB⟩
  have HN := Lib.hid hN
  have HB := Lib.hid hB
  clear hN hB
  go_wp2
  go_ret
  refine ⟨w1.heap.size, A', cap', rfl, HB.out.size, ⟨hp_new0 _ _, HN.out.byt.below ((Below.refl _ _).alloc (Nat.le_refl _) _), fun _ a ha => by have := HN.out.lt a ha; simp; omega⟩, fun a ha => ⟨HN.out.far a ha, by have := HN.out.lt a ha; simp; omega⟩, HB.out.alloc HB.out.size _⟩
set_option maxRecDepth 100000 in
set_option maxHeartbeats 1000000 in
theorem newL2 (A : Option Addr) (n cap : Nat) (b : Nat → Nat) (hn : n ≤ cap) (hmax : cap ≤ maxLen) (hz : A = none → cap = 0) (hsmall : n ≤ 1000000) (w : World) (hP : Byt w A n b) :
    Calls Try.prog 29 #[.slice A n cap] w fun e w' => ∃ g A' cap', e = .returned (.pointer (some ⟨g, 0, none⟩)) ∧ w.heap.size ≤ g ∧ Rd 76 g A' n cap' b 0 (.slice none 0 0) 0 w' ∧ (∀ a, A' = some a → w.heap.size ≤ a.block ∧ a.block < w'.heap.size) ∧ (n ≤ cap' ∧ cap' ≤ maxLen ∧ (∀ a, A' = some a → a = ⟨a.block, 0, none⟩) ∧ (A' = none → cap' = 0)) ∧ Below w.heap.size w w' := by
  go_enter Try.func29, Try.ntmps29
  go_wp2_with fail
  refine (clone_prog A n cap b hn hmax hz hsmall _ hP).mono ?_
  rintro e w1 ⟨A', cap', rfl, hN, hB⟩
  have HN := Lib.hid hN
  have HB := Lib.hid hB
  clear hN hB
  go_wp2
  go_ret
  refine ⟨w1.heap.size, A', cap', rfl, HB.out.size, ⟨hp_new0 _ _, HN.out.byt.below ((Below.refl _ _).alloc (Nat.le_refl _) _), fun _ a ha => by have := HN.out.lt a ha; simp; omega⟩, fun a ha => ⟨HN.out.far a ha, by have := HN.out.lt a ha; simp; omega⟩, ⟨HN.out.le, HN.out.max, HN.out.form, HN.out.nil⟩, HB.out.alloc HB.out.size _⟩
end Go.Proofs.Ytioghgnngdcicaa
