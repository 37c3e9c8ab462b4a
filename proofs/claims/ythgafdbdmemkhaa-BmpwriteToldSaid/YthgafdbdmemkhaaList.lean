/- engraverref8.List: the unlike pixels and each pixel's place; engraverref8.Colours. -/
import Derived.Test.YthgafdbdmemkhaaEq
import Derived.Test.YthgafdbdmemkhaaSet
import Derived.Deep.RegionHeld3
namespace Go.Proofs.Ythgafdbdmemkhaa
set_option linter.unusedVariables false
open Go.ChangeShapes Go.WideShapes Go.ChangeAt Go.RowKit

theorem info41 : (Try.prog.info? 48).map (fun i => (i.zero, i.size, i.bytes)) = some (some (.agg #[.int .u16 0, .int .u16 0, .int .u16 0, .int .u16 0]), 4, 8) := by kernel_rfl
theorem info3 : (Try.prog.info? 3).map (fun i => (i.zero, i.size, i.bytes)) = some (some (.int .i64 0), 1, 8) := by kernel_rfl

def listPost (c : Nat → Nat) (N : Nat) (most : Int) (w : World) (e : Ending) (w' : World) : Prop :=
  (((U c N).length : Int) ≤ most ∧ ∃ v u, e = .returned (.tuple #[v, u, .bool true]) ∧ w'.ownsRow w.heap.size 48 4 v (U c N).length (cellsP (U c N)) ∧ w'.ownsRow w.heap.size 3 1 u N (cellsI (pl c N))) ∨
  (¬((U c N).length : Int) ≤ most ∧ e = .returned (.tuple #[.slice none 0 0, .slice none 0 0, .bool false]))

/-- The loop's state behind i pixels. -/
structure LS (c : Nat → Nat) (most : Int) (w : World) (a b : Int) (bk off n cap i : Nat) (v u : Value) (wr : World) : Prop where
  rv : wr.ownsRow (w.heap.size + 1) 48 4 v (U c i).length (cellsP (U c i))
  ru : wr.ownsRow (w.heap.size + 1) 3 1 u i (cellsI (pl c i))
  ne : v.ownBlock = none ∨ v.ownBlock ≠ u.ownBlock
  lim : 0 < i → ((U c i).length : Int) ≤ most
  below : Below w.heap.size w wr
  box : wr.heap[w.heap.size]? = some (.cells #[.int .i64 a, .int .i64 b, .slice (some ⟨bk, off, none⟩) n cap] 26 (0, 0))

theorem own_none {w w' : World} {base : Nat} {e : TypeId} {size n : Nat} {v : Value} {xs : List Value} (h : w.ownsRow base e size v n xs) (hb : Below w.heap.size w w') : w'.ownsRow base e size v n xs :=
  h.kept (grown_of_below hb none) (by cases v.ownBlock <;> simp)

theorem own_le' {w : World} {b b' : Nat} (h : b' ≤ b) {e : TypeId} {size n : Nat} {v : Value} {xs : List Value} (ho : w.ownsRow b e size v n xs) : w.ownsRow b' e size v n xs := by
  refine ⟨ho.1, ?_⟩
  rcases ho.2 with h1 | ⟨g, cap, cur, hv, hb, r⟩
  · exact .inl h1
  · exact .inr ⟨g, cap, cur, hv, Nat.le_trans h hb, r⟩
theorem own_ne {w : World} {base : Nat} {e : TypeId} {size n : Nat} {v u v' : Value} {xs : List Value} (hu : w.ownsRow base e size u n xs) (hne : v.ownBlock = none ∨ v.ownBlock ≠ u.ownBlock)
    (hat : v'.ownBlock = v.ownBlock ∨ v'.ownBlock = some w.heap.size) : v'.ownBlock = none ∨ v'.ownBlock ≠ u.ownBlock := by
  rcases hat with h | h
  · rw [h]; exact hne
  · refine .inr ?_
    rw [h]
    intro h2
    have := (hu.lt _ h2.symm).2
    omega
theorem LS.push {c : Nat → Nat} {most : Int} {w : World} {a b : Int} {bk off n cap i : Nat} {v u u' : Value} {W0 W1 : World} {k : Nat}
    (rv : W0.ownsRow (w.heap.size + 1) 48 4 v (U c (i + 1)).length (cellsP (U c (i + 1)))) (ru : W0.ownsRow (w.heap.size + 1) 3 1 u i (cellsI (pl c i)))
    (hne : v.ownBlock = none ∨ v.ownBlock ≠ u.ownBlock) (hlim : ((U c (i + 1)).length : Int) ≤ most) (hbel : Below w.heap.size w W0)
    (hbox : W0.heap[w.heap.size]? = some (.cells #[.int .i64 a, .int .i64 b, .slice (some ⟨bk, off, none⟩) n cap] 26 (0, 0)))
    (hown' : W1.ownsRow (w.heap.size + 1) 3 1 u' (i + 1) (cellsI (pl c i) ++ [.int .i64 (k : Nat)])) (hk : (U c i).idxOf (p4 c i) = k) (hgrow : W0.grownBy W1 u.ownBlock)
    (hat : u'.ownBlock = u.ownBlock ∨ u'.ownBlock = some W0.heap.size) : LS c most w a b bk off n cap (i + 1) v u' W1 := by
  have hub : ∀ g, u.ownBlock = some g → w.heap.size + 1 ≤ g := fun g hg => (ru.lt g hg).1
  refine ⟨rv.kept hgrow hne, ?_, ?_, fun _ => hlim, hbel.grown hgrow hbel.size (fun g hg => by have := hub g hg; omega), ?_⟩
  · rw [pl_succ, cellsI_snoc, hk]; exact hown'
  · rcases hne with h | h
    · exact .inl h
    · by_cases h0 : v.ownBlock = none
      · exact .inl h0
      · refine .inr ?_
        rcases hat with h2 | h2
        · rw [h2]; exact h
        · rw [h2]
          intro h3
          have := (rv.lt _ h3).2
          omega
  · have hlt := (Array.getElem?_eq_some_iff.1 hbox).1
    exact (hgrow.block _ hlt (fun e => by have := hub _ e.symm; omega)).trans hbox
theorem one_new {w : World} {x : Value} {t : TypeId} (n : Nat) {j : Nat} {u : Value} (h : [x][j]? = some u) : ((w.drewN n).alloc (.cells #[x] t)).cell? ((⟨w.heap.size, 0, none⟩ : Addr).add j) = some u := by
  cases j with
  | zero => simp at h; subst h; exact hp_cell (j := 0) (hp_new0 (w.drewN n) (.cells #[x] t)) rfl
  | succ j => simp at h
theorem four_newP {w : World} {p : P4} (n : Nat) {j : Nat} {u : Value} (h : (cP p)[j]? = some u) : ((w.drewN n).alloc (.cells #[.int .u16 (p.1 : Nat), .int .u16 (p.2.1 : Nat), .int .u16 (p.2.2.1 : Nat), .int .u16 (p.2.2.2 : Nat)] 48)).cell? ((⟨w.heap.size, 0, none⟩ : Addr).add j) = some u := by
  rw [Addr.add_lit, Nat.zero_add]
  have h2 : (cP p).toArray[j]? = some u := by rw [List.getElem?_toArray]; exact h
  exact hp_cell (hp_new0 (w.drewN n) (.cells (cP p).toArray 48)) h2
theorem ne_snoc {L : List P4} {p q : P4} {k : Nat} (h : ∀ j, j < k → L[j]? ≠ some p) (hq : L[k]? = some q) (hne : ¬q = p) : ∀ j, j < k + 1 → L[j]? ≠ some p := by
  intro j hj
  by_cases e : j = k
  · subst e
    rw [hq]
    intro h2
    injection h2 with h2
    exact hne h2
  · exact h j (by omega)
set_option maxRecDepth 100000 in
set_option maxHeartbeats 4000000 in
theorem list_ref (a b : Int) (bk off cap : Nat) (c : Nat → Nat) (hc : ∀ i, c i < 65536) (N : Nat) (most : Int) (ha : In64 a) (hb : In64 b) (hm : mayB a b (4 * N) = true) (hN1 : 1 ≤ N) (hN2 : N ≤ 16384) (hcap : 4 * N ≤ cap) (hmax : cap ≤ maxLen)
    (w : World) (hbk : bk < w.heap.size) (hcells : ∀ j, j < 4 * N → w.cell? ⟨bk, off + j, none⟩ = some (.int .u16 (c j : Nat))) :
    Calls Try.prog 26 #[.agg #[.int .i64 a, .int .i64 b, .slice (some ⟨bk, off, none⟩) (4 * N) cap], .int .i64 most] w fun e w' => listPost c N most w e w' ∧ Below w.heap.size w w' := by
  obtain ⟨i41, hi41, hz410, hz411, hz412⟩ := info_parts info41
  obtain ⟨i3, hi3, hz30, hz31, hz32⟩ := info_parts info3
  obtain ⟨hz, hab⟩ := may_ok hm
  obtain ⟨q1, q2, q3, q4, q5⟩ := size_ok hz
  have hab2 : a * b = (N : Int) := by rw [Int.mul_assoc] at hab; omega
  have hw : wrap64 (a * b) = (N : Int) := (IntWalk.wrap64_in _ (by omega)).trans hab2
  unfold maxLen at hmax
  clear hz hab hab2
  go_enter Try.func26, Try.ntmps26
  go_wp2_with fail
  go_loopw [7, 8, 9] (fun v u x wr => ∃ i : Nat, i ≤ N ∧ x = .int .i64 i ∧ LS c most w a b bk off (4 * N) cap i v u wr) (fun _ _ x _ => N - (intOf x).toNat)
  case atStart => exact ⟨0, by omega, rfl, ⟨World.ownsRow_nil _ _ _ _, World.ownsRow_nil _ _ _ _, .inl rfl, fun h => absurd h (by omega), (Below.refl _ _).alloc (Nat.le_refl _) _, hp_new0 _ _⟩⟩
  case round =>
    obtain ⟨i, hi, rfl, hS⟩ := hrel
    have k0 := hp_cell (j := 0) hS.box rfl
    have k1 := hp_cell (j := 1) hS.box rfl
    have k2 := hp_cell (j := 2) hS.box rfl
    by_cases hlt : i < N
    · have hSz : w.heap.size < wr.heap.size := (Array.getElem?_eq_some_iff.1 hS.box).1
      have hbkr : bk < wr.heap.size := Nat.lt_of_lt_of_le hbk hS.below.size
      have hcs : ∀ j, j < 4 → wr.cell? ⟨bk, off + 4 * i + j, none⟩ = (cP (p4 c i))[j]? := fun j hj => by
        have h1 := (hS.below.cell (p := ⟨bk, off + (4 * i + j), none⟩) hbk).trans (hcells (4 * i + j) (by omega))
        rw [← Nat.add_assoc] at h1
        rw [h1]
        obtain rfl | rfl | rfl | rfl : j = 0 ∨ j = 1 ∨ j = 2 ∨ j = 3 := by omega
        all_goals rfl
      have hbel : Below wr.heap.size wr (wr.alloc (.cells #[.int .u16 0, .int .u16 0, .int .u16 0, .int .u16 0] 48)).drew := ((Below.refl _ _).alloc (Nat.le_refl _) _).drew
      have hZ : (wr.alloc (.cells #[.int .u16 0, .int .u16 0, .int .u16 0, .int .u16 0] 48)).drew.heap[wr.heap.size]? = some (.cells #[.int .u16 0, .int .u16 0, .int .u16 0, .int .u16 0] 48 (0, 0)) := hp_new0 wr _
      have kn2 := hp_cell (j := 2) (hp_alloc (.cells #[.int .u16 0, .int .u16 0, .int .u16 0, .int .u16 0] 48) hS.box) rfl
      have hrun := run_copy_row (P := Try.prog) (wr.alloc (.cells #[.int .u16 0, .int .u16 0, .int .u16 0, .int .u16 0] 48)).drew 24 24 3 28 wr.heap.size 0 4 4 ⟨bk, off + 4 * i, none⟩ (4 * N - 4 * i) (cap - 4 * i) _ _ (cP (p4 c i)) Try.underlying24 size38 hZ
        (show 4 = Nat.min (4 * N - 4 * i) 4 from (Nat.min_eq_right (by omega)).symm)
        (by
          intro j v hj
          have hj4 : j < 4 := by have := (List.getElem?_eq_some_iff.1 hj).1; simpa [cP] using this
          rw [Addr.add_lit]
          exact (hbel.cell (p := ⟨bk, off + 4 * i + j, none⟩) hbkr).trans ((hcs j hj4).trans hj)) (by simp [cP]) (cP_one _)
      change _ = Result.ok _ ((wr.alloc (.cells #[.int .u16 0, .int .u16 0, .int .u16 0, .int .u16 0] 48)).drew.setRow wr.heap.size (cP (p4 c i)).toArray) at hrun
      have hck : ¬cap = 4 * i := by omega
      have hlI : (4 : Int) * (i : Int) + 4 ≤ 4 * (N : Int) := by omega
      have hb2 : Below wr.heap.size wr ((wr.alloc (.cells #[.int .u16 0, .int .u16 0, .int .u16 0, .int .u16 0] 48)).drew.setRow wr.heap.size (cP (p4 c i)).toArray) := below_setRow hbel (Nat.le_refl _) _
      have hh2 : ((wr.alloc (.cells #[.int .u16 0, .int .u16 0, .int .u16 0, .int .u16 0] 48)).drew.setRow wr.heap.size (cP (p4 c i)).toArray).heap[wr.heap.size]? = some (.cells (cP (p4 c i)).toArray 48 (0, 0)) := setRow_heap _ _ _ _ _ _ hZ
      have HB2 := Lib.hid hb2
      have HH2 := Lib.hid hh2
      have HS := Lib.hid hS
      clear hb2 hh2 hS hbel hZ hcs
      go_wp2_with fail
      go_region
      generalize (wr.alloc (.cells #[.int .u16 0, .int .u16 0, .int .u16 0, .int .u16 0] 48)).drew.setRow wr.heap.size (cP (p4 c i)).toArray = W2 at *
      obtain ⟨rv, ru, hne, hlim, hbel, hbox⟩ := HS.out
      have rv2 := own_none rv HB2.out
      have ru2 := own_none ru HB2.out
      have hbel2 := hbel.trans (HB2.out.mono hbel.size)
      have hbox2 := hp_below hbox HB2.out hSz
      have hS2 : wr.heap.size < W2.heap.size := (Array.getElem?_eq_some_iff.1 HH2.out).1
      have hUs := U_succ c i
      have hps := pl_succ c i
      have hUm := U_mono c (show i + 1 ≤ N by omega)
      have hLi := U_le c i
      have hp16 := p4 c i
      clear rv ru hbel hbox HS k0 k1 k2 kn2 hrun HB2
      generalize hL : U c i = L at *
      generalize hp : p4 c i = p at *
      have HLp := Lib.hid hL
      have HPp := Lib.hid hp
      clear hp16
      obtain ⟨_, A, cv, rfl, hcv1, hcv2, hcv3⟩ := Sl.of_own rv2
      have HUs := Lib.hid hUs
      have Hps := Lib.hid hps
      clear hUs hps hcv3 hL hp
      go_wp2_with fail
      go_loopw [11] (fun x wr2 => ∃ k : Nat, k ≤ L.length ∧ x = .int .i64 k ∧ (∀ j, j < k → L[j]? ≠ some p) ∧ Below W2.heap.size W2 wr2) (fun x _ => L.length - (intOf x).toNat)
      case atStart => exact ⟨0, by omega, rfl, fun j hj => absurd hj (by omega), Below.refl _ _⟩
      case round =>
        rename World => wr2
        obtain ⟨k, hk, rfl, hnot, hB3⟩ := hrel
        have hpb := hp_below HH2.out hB3 hS2
        have p0 : wr2.cell? ⟨wr.heap.size, 0, none⟩ = some (.int .u16 (p.1 : Nat)) := hp_cell (j := 0) hpb rfl
        have p1 : wr2.cell? ⟨wr.heap.size, 1, none⟩ = some (.int .u16 (p.2.1 : Nat)) := hp_cell (j := 1) hpb rfl
        have p2 : wr2.cell? ⟨wr.heap.size, 2, none⟩ = some (.int .u16 (p.2.2.1 : Nat)) := hp_cell (j := 2) hpb rfl
        have p3 : wr2.cell? ⟨wr.heap.size, 3, none⟩ = some (.int .u16 (p.2.2.2 : Nat)) := hp_cell (j := 3) hpb rfl
        have HN := Lib.hid hnot
        clear hnot
        by_cases hkl : k < L.length
        · obtain ⟨q, hq⟩ : ∃ q, L[k]? = some q := ⟨L[k], List.getElem?_eq_getElem hkl⟩
          obtain ⟨gb, go, he, hgl, hgc⟩ := ((Sl.of_own rv2).below hB3).cell (by omega)
          subst he
          have hqc : ∀ j, j < 4 → wr2.cell? ⟨gb, go + k * 4 + j, none⟩ = (cP q)[j]? := fun j hj => by
            rw [Nat.add_assoc, hgc (k * 4 + j) (by omega), cellsP_get L k q hq j hj]
          have c0 : wr2.cell? ⟨gb, go + k * 4, none⟩ = some (.int .u16 (q.1 : Nat)) := hqc 0 (by omega)
          have c1 : wr2.cell? ⟨gb, go + k * 4 + 1, none⟩ = some (.int .u16 (q.2.1 : Nat)) := hqc 1 (by omega)
          have c2 : wr2.cell? ⟨gb, go + k * 4 + 2, none⟩ = some (.int .u16 (q.2.2.1 : Nat)) := hqc 2 (by omega)
          have c3 : wr2.cell? ⟨gb, go + k * 4 + 3, none⟩ = some (.int .u16 (q.2.2.2 : Nat)) := hqc 3 (by omega)
          have HQ := Lib.hid hq
          clear hq hqc hgc
          by_cases hqp : q = p
          · have hE := fun W => run_eqP q p W
            rw [show decide (q = p) = true from by simp [hqp]] at hE
            have hd : decide (k < L.length) = true := by simpa using hkl
            have hq2 := HQ.out
            rw [hqp] at hq2
            have HQ2 := Lib.hid hq2
            clear hqp hq2
            go_wp2_with fail
            go_quiet (fail)
            have hB4 : ∀ n, Below W2.heap.size W2 (wr2.drewN n) := fun n => below_drewN hB3 n
            have hru3 : ∀ n, (wr2.drewN n).ownsRow (w.heap.size + 1) 3 1 _ i (cellsI (pl c i)) := fun n => own_none ru2 (hB4 n)
            have hkk : ((k : Int) == (L.length : Int)) = false := by rw [beq_eq_false_iff_ne]; omega
            go_wp2_with (at_builtin; refine wpList_append_own_at _ rfl _ _ 43 rfl (w.heap.size + 1) 3 i3 _ 1 8 Try.underlying43 hi3 hz30 hz31 hz32 rfl (by decide) _ _ _ rfl ((hru3 _).alloc _) ⟨wr2.heap.size, 0, none⟩ 1 1 [.int .i64 (k : Nat)] rfl rfl ?c1 ?c2 ?c3 ?c4 ?c5 ?_)
            case c1 => exact fun j u h => one_new _ h
            case c2 => intro u hu; simp at hu; subst hu; rfl
            case c3 => unfold maxLen; omega
            case c4 => omega
            case c5 => have h1 := hbel2.size; have h2 := (hB4 nq).size; simp at h2 ⊢; omega
            intro u2 w1 hown' hgrow _ hat
            have hi0 : 0 < i := by omega
            have hid := idx_found HQ2.out HN.out
            have hUi : U c (i + 1) = L := by rw [HUs.out, if_pos hid.2]
            have hb4 := hB4 nq
            have hal := hb4.alloc hb4.size (.cells #[.int .i64 (k : Nat)] 3)
            have HR := Lib.hid (LS.push (c := c) (most := most) (i := i) (by rw [hUi]; exact own_none rv2 hal) (own_none ru2 hal) hne (by rw [hUi]; exact hlim hi0) (hbel2.trans (hal.mono hbel2.size)) (hp_below hbox2 hal (by omega)) hown' (by rw [HLp.out, HPp.out]; exact hid.1) hgrow (by rcases hat with h | h; exact .inl h; exact .inr (by rw [h]; simp)))
            clear hown' hgrow hat hal hb4 hid hUi
            go_wp2_with fail
            go_roundw
            case rel => exact ⟨i + 1, by omega, by go_num, HR.out⟩
            case measure => simp [intOf]; omega
          · have hE := fun W => run_eqP q p W
            rw [show decide (q = p) = false from by simp [hqp]] at hE
            have hd : decide (k < L.length) = true := by simpa using hkl
            have HQP := Lib.hid hqp
            clear hqp
            go_wp2_with fail
            go_quiet (fail)
            go_wp2_with fail
            go_roundw
            case rel => exact ⟨k + 1, by omega, by go_num, ne_snoc HN.out HQ.out HQP.out, below_drewN hB3 _⟩
            case measure => simp [intOf]; omega
        · obtain rfl : k = L.length := by omega
          have hid := idx_none HN.out
          have hUi : U c (i + 1) = L ++ [p] := by rw [HUs.out, if_neg hid.2]
          have hUl : (U c (i + 1)).length = L.length + 1 := by rw [hUi]; simp
          have HID := Lib.hid hid
          have HUI := Lib.hid hUi
          have HUL := Lib.hid hUl
          have hB4 : ∀ n, Below W2.heap.size W2 (wr2.drewN n) := fun n => below_drewN hB3 n
          have hd : decide (L.length < L.length) = false := by simp
          rw [hUl] at hUm
          clear hid hUi hUl
          by_cases hge : most ≤ (L.length : Int)
          · have HF := Lib.hid (show ¬((U c N).length : Int) ≤ most by omega)
            have HB := Lib.hid (fun n => hbel2.trans ((hB4 n).mono hbel2.size))
            go_wp2_with fail
            go_quiet (fail)
            go_wp2_with fail
            go_ret3
            exact ⟨.inr ⟨by have := HF.out; omega, rfl⟩, HB.out _⟩
          · have hrv3 : ∀ n, (wr2.drewN n).ownsRow (w.heap.size + 1) 48 4 _ L.length (cellsP L) := fun n => own_none rv2 (hB4 n)
            go_wp2_with fail
            go_quiet (fail)
            go_wp2_with (at_builtin; refine wpList_append_own_at _ rfl _ _ 54 rfl (w.heap.size + 1) 48 i41 _ 4 8 Try.underlying54 hi41 hz410 hz411 hz412 rfl (by decide) _ _ _ rfl ((hrv3 _).alloc _) ⟨wr2.heap.size, 0, none⟩ 1 1 (cP p) rfl rfl ?c1 ?c2 ?c3 ?c4 ?c5 ?_)
            case c1 => exact fun j u h => four_newP _ h
            case c2 => exact cP_one p
            case c3 => unfold maxLen; omega
            case c4 => omega
            case c5 => have h1 := hbel2.size; have h2 := (hB4 nq).size; simp at h2 ⊢; omega
            intro v2 w1 hown' hgrow _ hat
            have hb4 := hB4 nq
            have hal := hb4.alloc hb4.size (.cells #[.int .u16 (p.1 : Nat), .int .u16 (p.2.1 : Nat), .int .u16 (p.2.2.1 : Nat), .int .u16 (p.2.2.2 : Nat)] 48)
            have rv0 := own_none rv2 hal
            have ru0 := own_none ru2 hal
            have rva : ∀ g, Value.ownBlock (.slice A L.length cv) = some g → w.heap.size + 1 ≤ g := fun g hg => (rv0.lt g hg).1
            have ru1 := ru0.kept hgrow (by
              rcases hne with h | h
              · rw [h]; cases Value.ownBlock u8 <;> simp
              · exact .inr (Ne.symm h))
            have hne1 := own_ne ru0 hne (by rcases hat with h | h; exact .inl h; exact .inr (by rw [h]; simp))
            have hbel1 := (hbel2.trans (hal.mono hbel2.size)).grown hgrow (Nat.le_trans hbel2.size hal.size) (fun g hg => by have := rva g hg; omega)
            have hbox1 := (hgrow.block _ (Nat.lt_of_lt_of_le (by omega) hal.size) (fun e => by have := rva _ e.symm; omega)).trans (hp_below hbox2 hal (by omega))
            have hs1 : wr2.heap.size + 1 ≤ w1.heap.size := by have := hgrow.size; simp at this; exact this
            have hs2 : w.heap.size + 1 ≤ w1.heap.size := by have h1 := hbel2.size; have h2 := hb4.size; simp at h2; omega
            clear hgrow hat hal hb4 rv0 ru0 rva hrv3
            go_wp2_with (at_builtin; refine wpList_append_own_at _ rfl _ _ 43 rfl (w.heap.size + 1) 3 i3 _ 1 8 Try.underlying43 hi3 hz30 hz31 hz32 rfl (by decide) _ _ _ rfl (ru1.alloc _) ⟨w1.heap.size, 0, none⟩ 1 1 [.int .i64 (L.length : Nat)] rfl rfl ?c1 ?c2 ?c3 ?c4 ?c5 ?_)
            case c1 => exact fun j u h => one_new (w := w1) 0 h
            case c2 => intro u hu; simp at hu; subst hu; rfl
            case c3 => unfold maxLen; omega
            case c4 => omega
            case c5 => simp; omega
            intro u2 w3 hown3 hgrow3 _ hat3
            have hal1 := (Below.refl w1.heap.size w1).alloc (Nat.le_refl _) (.cells #[.int .i64 (L.length : Nat)] 3)
            have HR := Lib.hid (LS.push (c := c) (most := most) (i := i) (by rw [HUL.out, HUI.out, cellsP_snoc]; exact own_none hown' hal1) (own_none ru1 hal1) hne1 (by rw [HUL.out]; omega) (hbel1.trans (hal1.mono hbel1.size)) (hp_below hbox1 hal1 (by omega)) hown3 (by rw [HLp.out, HPp.out]; exact HID.out.1) hgrow3 (by rcases hat3 with h | h; exact .inl h; exact .inr (by rw [h]; simp)))
            clear hown' hown3 hgrow3 hat3 hal1 ru1 hne1 hbel1 hbox1
            go_wp2_with fail
            go_roundw
            case rel => exact ⟨i + 1, by omega, by go_num, HR.out⟩
            case measure => simp [intOf]; omega
    · obtain rfl : i = N := by omega
      have hlm := hS.lim (by omega)
      have hbe := hS.below
      have ⟨rv, ru, _, _, _, _⟩ := hS
      have HR := Lib.hid (show listPost c i most w (.returned (.tuple #[u7, u8, .bool true])) wr from .inl ⟨hlm, u7, u8, rfl, own_le' (by omega) rv, own_le' (by omega) ru⟩)
      clear hS rv ru
      go_wp2_with fail
      go_ret3
      exact ⟨HR.out, hbe⟩
end Go.Proofs.Ythgafdbdmemkhaa
