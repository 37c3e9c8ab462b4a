/- palette.Draw and engraverref8.Draw. -/
import Derived.Test.YtnjlklcggcfcgaaPal
import Derived.Test.YtnjlklcggcfcgaaSet
import Derived.Test.YtnjlklcggcfcgaaList
namespace Go.Proofs.Ytnjlklcggcfcgaa
set_option linter.unusedVariables false
open Go.ChangeShapes Go.WideShapes Go.ChangeAt Go.RowKit

/-- Bytes lie in w: m of them, d j the j-th. -/
def Byt (w : World) (A : Option Addr) (m : Nat) (d : Nat → Nat) : Prop :=
  0 < m → ∃ bk off, A = some ⟨bk, off, none⟩ ∧ bk < w.heap.size ∧ ∀ j, j < m → w.cell? ⟨bk, off + j, none⟩ = some (.int .u8 (d j : Nat))
theorem Byt.below {w w' : World} {A : Option Addr} {n : Nat} {c : Nat → Nat} (h : Byt w A n c) (hb : Below w.heap.size w w') : Byt w' A n c := fun hn => by
  obtain ⟨bk, off, rfl, hlt, hc⟩ := h hn
  exact ⟨bk, off, rfl, Nat.lt_of_lt_of_le hlt hb.size, fun j hj => (hb.cell (p := ⟨bk, off + j, none⟩) hlt).trans (hc j hj)⟩
def colAt (L : List P4) (i : Nat) : P4 := (L[i]?).getD (0, 0, 0, 0)
def part4 (p : P4) (k : Nat) : Nat := if k = 0 then p.1 else if k = 1 then p.2.1 else if k = 2 then p.2.2.1 else p.2.2.2
/-- The picture of places. -/
def drawC (L : List P4) (d : Nat → Nat) (j : Nat) : Nat := part4 (colAt L (d (j / 4))) (j % 4)
theorem drawC_lt {L : List P4} (hL : ∀ p ∈ L, w4 p) (d : Nat → Nat) (j : Nat) : drawC L d j < 65536 := by
  have h : w4 (colAt L (d (j / 4))) := by
    unfold colAt
    cases h : L[d (j / 4)]? with
    | none => unfold w4; simp
    | some p => exact hL p (List.mem_of_getElem? h)
  obtain ⟨h1, h2, h3, h4⟩ := h
  unfold drawC part4
  (repeat' split) <;> omega
def badIx (m : Nat) (L : List P4) (d : Nat → Nat) : Bool := (List.range m).any fun i => decide (L.length ≤ d i)
theorem bad_t {m i : Nat} {L : List P4} {d : Nat → Nat} (hi : i < m) (h : L.length ≤ d i) : badIx m L d = true := by
  simp only [badIx, List.any_eq_true, List.mem_range, decide_eq_true_eq]
  exact ⟨i, hi, h⟩
theorem bad_f {m : Nat} {L : List P4} {d : Nat → Nat} (h : ∀ i, i < m → d i < L.length) : badIx m L d = false := by
  rw [← Bool.not_eq_true]
  simp only [badIx, List.any_eq_true, List.mem_range, decide_eq_true_eq]
  rintro ⟨i, hi, h2⟩
  have := h i hi
  omega
def drawE (a b : Int) (m : Nat) (L : List P4) (d : Nat → Nat) : Int := if sizeE a b ≠ 0 then sizeE a b else if (m : Int) < a * b then 2 else if a * b < (m : Int) then 3 else if badIx m L d = true then 4 else 0
def drawPost (a b : Int) (m : Nat) (L : List P4) (d : Nat → Nat) (w : World) (e : Ending) (w' : World) : Prop :=
  (drawE a b m L d = 0 ∧ (m : Int) = a * b ∧ ∃ A cap, e = .returned (.tuple #[.agg #[.int .i64 a, .int .i64 b, .slice A (4 * m) cap], .int .i64 0]) ∧ NewRow w.heap.size w' (4 * m) A cap (drawC L d)) ∨
  (drawE a b m L d ≠ 0 ∧ e = .returned (.tuple #[.agg #[.int .i64 0, .int .i64 0, .slice none 0 0], .int .i64 (drawE a b m L d)]))
theorem draw_cur {n i : Nat} {cur : Array Value} {L : List P4} {d : Nat → Nat} (h : ∀ j, j < 4 * i → cur[j]? = some (.int .u16 (drawC L d j : Nat))) (hs : n ≤ cur.size) (hi : 4 * i + 4 ≤ n) {p : P4} (hp : colAt L (d i) = p) (j : Nat) (hj : j < 4 * (i + 1)) :
    (setCur cur i (cP p))[j]? = some (.int .u16 (drawC L d j : Nat)) := by
  by_cases h1 : 4 * i ≤ j
  · obtain ⟨k, rfl⟩ := Nat.le.dest h1
    rw [setCur_in _ _ _ (by simp [cP]; omega) _ (by simp [cP]; omega)]
    have e1 : (4 * i + k) / 4 = i := by omega
    have e2 : (4 * i + k) % 4 = k := by omega
    unfold drawC
    rw [e1, e2, hp]
    obtain rfl | rfl | rfl | rfl : k = 0 ∨ k = 1 ∨ k = 2 ∨ k = 3 := by omega
    all_goals rfl
  · rw [setCur_out _ _ _ (by simp [cP]; omega) _ (by omega), h j (by omega)]

/-- The loop's world behind i places. -/
structure DS (T : TypeId) (w : World) (a b : Int) (AL : Option Addr) (nL capL : Nat) (cl : Int) (R g m cap : Nat) (L : List P4) (d : Nat → Nat) (i : Nat) (wr : World) : Prop where
  below : Below w.heap.size w wr
  pal : wr.heap[w.heap.size]? = some (.cells #[.slice AL nL capL, .int .i64 cl] T (0, 0))
  res : wr.heap[w.heap.size + 1]? = some (.cells #[.int .i64 0, .int .i64 0, .slice none 0 0] 24 (0, 0))
  box : wr.heap[R]? = some (.cells #[.int .i64 a, .int .i64 b, .slice (some ⟨g, 0, none⟩) (4 * m) cap] 24 (0, 0))
  row : ∃ cur, wr.heap[g]? = some (.cells cur 46 (0, 0)) ∧ 4 * m ≤ cur.size ∧ ∀ j, j < 4 * i → cur[j]? = some (.int .u16 (drawC L d j : Nat))
theorem DS.drewN {T : TypeId} {w : World} {a b : Int} {AL : Option Addr} {nL capL : Nat} {cl : Int} {R g m cap : Nat} {L : List P4} {d : Nat → Nat} {i : Nat} {wr : World} (h : DS T w a b AL nL capL cl R g m cap L d i wr) (q : Nat) : DS T w a b AL nL capL cl R g m cap L d i (wr.drewN q) :=
  ⟨below_drewN h.below q, h.pal, h.res, h.box, h.row⟩
theorem DS.step {T : TypeId} {w : World} {a b : Int} {AL : Option Addr} {nL capL : Nat} {cl : Int} {R g m cap : Nat} {L : List P4} {d : Nat → Nat} {i : Nat} {wr : World} {cur : Array Value} (h : DS T w a b AL nL capL cl R g m cap L d i wr)
    (hg : wr.heap[g]? = some (.cells cur 46 (0, 0))) (hs : 4 * m ≤ cur.size) (hc : ∀ j, j < 4 * i → cur[j]? = some (.int .u16 (drawC L d j : Nat))) (hi : i < m) {p : P4} (hp : colAt L (d i) = p) (hgB : w.heap.size + 2 ≤ g) (hgR : g ≠ R) :
    DS T w a b AL nL capL cl R g m cap L d (i + 1) (wr.drew.setRow g (setCur cur i (cP p))) := by
  have hgr : wr.grownBy (wr.drew.setRow g (setCur cur i (cP p))) (some g) := (grown_drewS _ _).trans (grown_setRow _ _ _)
  have lt := fun {k : Nat} {o : Obj} (h : wr.heap[k]? = some o) => (Array.getElem?_eq_some_iff.1 h).1
  refine ⟨h.below.grown hgr h.below.size (fun k e => by cases e; omega), (hgr.block _ (lt h.pal) (fun e => by injection e; omega)).trans h.pal, (hgr.block _ (lt h.res) (fun e => by injection e; omega)).trans h.res, (hgr.block _ (lt h.box) (fun e => by injection e with e; exact hgR e.symm)).trans h.box, _, setRow_heap _ _ _ _ _ _ (show wr.drew.heap[g]? = _ from hg), ?_, fun j hj => draw_cur hc hs (by omega) hp j hj⟩
  rw [setCur_size _ _ _ (by simp [cP]; omega)]
  exact hs
theorem below3 {w W : World} (h : Below w.heap.size w W) {g : Nat} (hg : w.heap.size ≤ g) (v0 v1 v2 : Value) : Below w.heap.size w (((W.setCell ⟨g, 0, none⟩ v0).setCell ⟨g, 1, none⟩ v1).setCell ⟨g, 2, none⟩ v2) :=
  ((h.setCell (p := ⟨g, 0, none⟩) hg _).setCell (p := ⟨g, 1, none⟩) hg _).setCell (p := ⟨g, 2, none⟩) hg _
theorem all_snoc' {p : Nat → Prop} {k : Nat} (h : ∀ j, j < k → p j) (hk : p k) : ∀ j, j < k + 1 → p j := by
  intro j hj
  by_cases e : j = k
  · subst e; exact hk
  · exact h j (by omega)

set_option maxRecDepth 100000 in
set_option maxHeartbeats 4000000 in
theorem draw_prog (a b : Int) (AL : Option Addr) (capL : Nat) (cl : Int) (L : List P4) (AI : Option Addr) (m capI : Nat) (d : Nat → Nat) (ha : In64 a) (hb : In64 b) (hL : L.length ≤ 1000000) (hd : ∀ i, d i < 256) (hm : m ≤ capI) (hmI : capI ≤ maxLen) (w : World)
    (hSl : Sl w (.slice AL L.length capL) 4 L.length (cellsP L)) (hI : Byt w AI m d) :
    Calls Try.prog 15 #[.agg #[.slice AL L.length capL, .int .i64 cl], .int .i64 a, .int .i64 b, .slice AI m capI] w fun e w' => drawPost a b m L d w e w' ∧ Below w.heap.size w w' := by
  obtain ⟨q0, q1, q2, q3⟩ := two_boxes w #[.slice AL L.length capL, .int .i64 cl] #[.int .i64 0, .int .i64 0, .slice none 0 0] 28 24
  unfold maxLen at hmI
  go_enter Try.func15, Try.ntmps15
  go_wp2_with fail
  refine (new_prog a b ha hb _).mono ?_
  rintro e w2 ⟨hB, ⟨hz, v, rfl, hown⟩ | ⟨hz, rfl⟩⟩
  case inr =>
    have hs2 := hB.size
    rw [q0] at hB hs2
    have r1 := hp_below q2 hB (by omega)
    have l0 := hp_cell (j := 0) r1 rfl
    have l1 := hp_cell (j := 1) r1 rfl
    have l2 := hp_cell (j := 2) r1 rfl
    have lf : ∀ j, w2.frozen? ⟨w.heap.size + 1, j, none⟩ = false := fun j => by simp [World.frozen?, r1]
    have t1 : (sizeE a b == 0) = false := by rw [beq_eq_false_iff_ne]; exact hz
    have t2 : (sizeE a b != 0) = true := by rw [bne_iff_ne]; exact hz
    have HB := Lib.hid (q3.trans (hB.mono (by omega)))
    have hne : ¬w2.heap.size = w.heap.size + 1 := by omega
    have he : drawE a b m L d = sizeE a b := by unfold drawE; rw [if_pos hz]
    have HP := Lib.hid he
    have HZ := Lib.hid hz
    have hne : ¬w2.heap.size = w.heap.size + 1 := by omega
    have p1 := hp_alloc (.cells #[.int .i64 0, .int .i64 0, .slice none 0 0] 24) r1
    have k0 := hp_cell (j := 0) p1 rfl
    have k1 := hp_cell (j := 1) p1 rfl
    have k2 := hp_cell (j := 2) p1 rfl
    have kf : ∀ j, (w2.alloc (.cells #[.int .i64 0, .int .i64 0, .slice none 0 0] 24)).frozen? ⟨w.heap.size + 1, j, none⟩ = false := fun j => by simp [World.frozen?, p1]
    clear hB q0 q1 q2 q3 he hz r1 p1 hSl hI
    go_wp2
    refine bodyPost_ret (v := .tuple #[.agg #[.int .i64 0, .int .i64 0, .slice none 0 0], .int .i64 (sizeE a b)]) (by rw [results_cell_tmp rfl]; go_simp) rfl ?_
    refine ⟨.inr ⟨by rw [HP.out]; exact HZ.out, by rw [HP.out]⟩, ?_⟩
    exact below3 (HB.out.alloc HB.out.size _) (by omega) _ _ _
  case inl =>
    obtain ⟨s1, s2, s3, s4, s5⟩ := size_ok hz
    obtain ⟨N, hN⟩ : ∃ N : Nat, a * b = (N : Int) := ⟨(a * b).toNat, by have := Int.mul_nonneg (show 0 ≤ a by omega) (show 0 ≤ b by omega); omega⟩
    have hN1 : 1 ≤ N := by have := Int.mul_pos (show 0 < a by omega) (show 0 < b by omega); omega
    have hN2 : N ≤ 16384 := by omega
    have h4N : (4 * a * b).toNat = 4 * N := by rw [Int.mul_assoc, hN]; omega
    rw [h4N] at hown
    have hw : wrap64 (a * b) = (N : Int) := (IntWalk.wrap64_in _ (by omega)).trans hN
    obtain ⟨hlen, hf⟩ := hown
    rcases hf with ⟨rfl, h0⟩ | ⟨g, cap, cur, rfl, hgb, hg, hnc, hcm, hcs, ht⟩
    · exact absurd h0 (by omega)
    have hgl : g < w2.heap.size := (Array.getElem?_eq_some_iff.1 hg).1
    have hs2 := hB.size
    rw [q0] at hB hs2 hgb
    have r0 := hp_alloc (.cells #[.int .i64 a, .int .i64 b, .slice (some ⟨g, 0, none⟩) (4 * N) cap] 24) (hp_below q1 hB (by omega))
    have r1 := hp_alloc (.cells #[.int .i64 a, .int .i64 b, .slice (some ⟨g, 0, none⟩) (4 * N) cap] 24) (hp_below q2 hB (by omega))
    have r2 := hp_new0 w2 (.cells #[.int .i64 a, .int .i64 b, .slice (some ⟨g, 0, none⟩) (4 * N) cap] 24)
    have hg2 := hp_alloc (.cells #[.int .i64 a, .int .i64 b, .slice (some ⟨g, 0, none⟩) (4 * N) cap] 24) hg
    have hB2 := q3.trans (hB.mono (by omega))
    have hB3 := hB2.alloc hB2.size (.cells #[.int .i64 a, .int .i64 b, .slice (some ⟨g, 0, none⟩) (4 * N) cap] 24)
    have HZ := Lib.hid hz
    have HNN := Lib.hid hN
    have HB3 := Lib.hid hB3
    have hgR : g ≠ w2.heap.size := by omega
    have hRw : w.heap.size + 2 ≤ w2.heap.size := by omega
    have hcsz : 4 * N ≤ cur.size := by omega
    clear q0 q1 q2 q3 hz hN h4N hg hB hB2 ht hlen hcs s5 hB3
    have l0 := hp_cell (j := 0) r1 rfl
    have l1 := hp_cell (j := 1) r1 rfl
    have l2 := hp_cell (j := 2) r1 rfl
    have lf : ∀ j, (w2.alloc (.cells #[.int .i64 a, .int .i64 b, .slice (some ⟨g, 0, none⟩) (4 * N) cap] 24)).frozen? ⟨w.heap.size + 1, j, none⟩ = false := fun j => by simp [World.frozen?, r1]
    have hmN : m < N ∨ N < m ∨ m = N := by omega
    rcases hmN with hlt | hgt | rfl
    · have t1 : decide (m < N) = true := by simpa using hlt
      have he : drawE a b m L d = 2 := by unfold drawE; rw [if_neg (by simpa using HZ.out), if_pos (by have := HNN.out; omega)]
      have HE := Lib.hid he
      clear he
      go_wp2
      refine bodyPost_ret (v := .tuple #[.agg #[.int .i64 0, .int .i64 0, .slice none 0 0], .int .i64 2]) (by rw [results_cell_tmp rfl]; go_simp) rfl ?_
      exact ⟨.inr ⟨by rw [HE.out]; decide, by rw [HE.out]⟩, below3 HB3.out (by omega) _ _ _⟩
    · have t1 : decide (m < N) = false := by simp; omega
      have t2 : decide (N < m) = true := by simpa using hgt
      have he : drawE a b m L d = 3 := by unfold drawE; rw [if_neg (by simpa using HZ.out), if_neg (by have := HNN.out; omega), if_pos (by have := HNN.out; omega)]
      have HE := Lib.hid he
      clear he
      go_wp2
      refine bodyPost_ret (v := .tuple #[.agg #[.int .i64 0, .int .i64 0, .slice none 0 0], .int .i64 3]) (by rw [results_cell_tmp rfl]; go_simp) rfl ?_
      exact ⟨.inr ⟨by rw [HE.out]; decide, by rw [HE.out]⟩, below3 HB3.out (by omega) _ _ _⟩
    · have hee : badIx m L d = true → drawE a b m L d = 4 := fun h => by unfold drawE; rw [if_neg (by simpa using HZ.out), if_neg (by have := HNN.out; omega), if_neg (by have := HNN.out; omega), if_pos h]
      have hef : badIx m L d = false → drawE a b m L d = 0 := fun h => by unfold drawE; rw [if_neg (by simpa using HZ.out), if_neg (by have := HNN.out; omega), if_neg (by have := HNN.out; omega), if_neg (by simp [h])]
      have HEE := Lib.hid hee
      have HEF := Lib.hid hef
      have hDS : DS 28 w a b AL L.length capL cl w2.heap.size g m cap L d 0 _ := ⟨HB3.out, r0, r1, r2, cur, hg2, hcsz, fun j hj => absurd hj (by omega)⟩
      clear hee hef r0 r1 r2 hg2
      go_wp2_with fail
      clear l0 l1 l2 lf
      generalize w2.alloc (.cells #[.int .i64 a, .int .i64 b, .slice (some ⟨g, 0, none⟩) (4 * m) cap] 24) = w3 at *
      generalize w2.heap.size = R at *
      go_loopw [43] (fun v wr => ∃ i : Nat, i ≤ m ∧ v = .int .i64 i ∧ (∀ j, j < i → d j < L.length) ∧ DS 28 w a b AL L.length capL cl R g m cap L d i wr) (fun v _ => m - (intOf v).toNat)
      case atStart => exact ⟨0, by omega, rfl, fun j hj => absurd hj (by omega), hDS⟩
      case round =>
        clear hDS
        obtain ⟨i, hi, rfl, hgood, hS⟩ := hrel
        have HGd := Lib.hid hgood
        clear hgood
        have k0 := hp_cell (j := 0) hS.pal rfl
        have l0 := hp_cell (j := 0) hS.res rfl
        have l1 := hp_cell (j := 1) hS.res rfl
        have l2 := hp_cell (j := 2) hS.res rfl
        have lf : ∀ j, wr.frozen? ⟨w.heap.size + 1, j, none⟩ = false := fun j => by simp [World.frozen?, hS.res]
        have x0 := hp_cell (j := 0) hS.box rfl
        have x1 := hp_cell (j := 1) hS.box rfl
        have x2 := hp_cell (j := 2) hS.box rfl
        by_cases hlt : i < m
        · obtain ⟨bI, oI, rfl, hbI, hcI⟩ := hI.below hS.below (by omega)
          have c0 := hcI i hlt
          have hdi := hd i
          clear hcI
          by_cases hbad : L.length ≤ d i
          · have t1 : decide (L.length ≤ d i) = true := by simpa using hbad
            have HE := Lib.hid (HEE.out (bad_t hlt hbad))
            have HSb := Lib.hid hS.below
            clear hS hbad
            go_wp2
            refine bodyPost_ret (v := .tuple #[.agg #[.int .i64 0, .int .i64 0, .slice none 0 0], .int .i64 4]) (by rw [results_cell_tmp rfl]; go_simp) rfl ?_
            exact ⟨.inr ⟨by rw [HE.out]; decide, by rw [HE.out]⟩, below3 HSb.out (by omega) _ _ _⟩
          · have t1 : decide (L.length ≤ d i) = false := by simpa using hbad
            have hdl : d i < L.length := by omega
            have hdI : ((d i : Nat) : Int) < (L.length : Int) := by omega
            obtain ⟨p, hp⟩ : ∃ p, L[d i]? = some p := ⟨L[d i], List.getElem?_eq_getElem hdl⟩
            have hpc : colAt L (d i) = p := by unfold colAt; rw [hp]; rfl
            obtain ⟨bL, oL, rfl, hbL, hcL⟩ := (hSl.below hS.below).cell (by omega)
            obtain ⟨cur', hg', hs', hc'⟩ := hS.row
            have hrun := run_copy_row (P := Try.prog) wr.drew 22 22 3 46 g (4 * i) (4 * m - 4 * i) (cap - 4 * i) ⟨bL, oL + d i * 4, none⟩ 4 4 cur' _ (cP p) Try.underlying22 size38 hg' (show 4 = Nat.min 4 (4 * m - 4 * i) from (Nat.min_eq_left (by omega)).symm)
              (by
                intro j v hj
                have hj4 : j < 4 := by have := (List.getElem?_eq_some_iff.1 hj).1; simpa [cP] using this
                rw [Addr.add_lit, Nat.add_assoc]
                exact (hcL (d i * 4 + j) (by omega)).trans ((cellsP_get L (d i) p hp j hj4).trans hj)) (by simp [cP]; omega) (cP_one p)
            change _ = Result.ok _ (wr.drew.setRow g (setCur cur' i (cP p))) at hrun
            have HN := Lib.hid (hS.step hg' hs' hc' hlt hpc (by omega) hgR)
            have HGn := Lib.hid (all_snoc' (p := fun j => d j < L.length) HGd.out hdl)
            have hck : ¬cap = 4 * i := by omega
            have hlI : (4 : Int) * (i : Int) + 4 ≤ 4 * (m : Int) := by omega
            have v3 : IntKind.i64.wrap (4 * (i : Int)) = 4 * (i : Int) := IntWalk.i64_in _ (by omega)
            have v4 : IntKind.i64.wrap (4 * (i : Int) + 4) = 4 * (i : Int) + 4 := IntWalk.i64_in _ (by omega)
            have hl4 : (cP p).length = 4 := rfl
            rw [hl4] at hrun
            clear hS hbad hp hpc hcL hg' hs' hc' hl4
            go_wp2_with fail
            go_region
            go_wp2
            go_roundw
            case rel => exact ⟨i + 1, by omega, by go_num, HGn.out, HN.out⟩
            case measure => simp [intOf]; omega
        · obtain rfl : i = m := by omega
          have HE := Lib.hid (HEF.out (bad_f HGd.out))
          obtain ⟨cur', hg', hs', hc'⟩ := hS.row
          have hO : Own (w.heap.size + 2) wr (some ⟨g, 0, none⟩) (4 * i) (drawC L d) := fun _ => ⟨g, cur', rfl, by omega, hg', hs', hc'⟩
          have HO := Lib.hid hO
          have HSb := Lib.hid hS.below
          have HAB := Lib.hid HNN.out.symm
          clear hS hg' hs' hc' hO
          go_wp2
          refine bodyPost_ret (v := .tuple #[.agg #[.int .i64 a, .int .i64 b, .slice (some ⟨g, 0, none⟩) (4 * i) cap], .int .i64 0]) (by rw [results_cell_tmp rfl]; go_simp) rfl ?_
          exact ⟨.inl ⟨HE.out, HAB.out, _, cap, rfl, hnc, hcm, (fun h => by cases h), (((HO.out.set (g := w.heap.size + 1) (by omega) 0 _).set (g := w.heap.size + 1) (by omega) 1 _).set (g := w.heap.size + 1) (by omega) 2 _).le (by omega)⟩, below3 HSb.out (by omega) _ _ _⟩

set_option maxRecDepth 100000 in
set_option maxHeartbeats 4000000 in
theorem draw_ref (a b : Int) (AL : Option Addr) (capL : Nat) (cl : Int) (L : List P4) (AI : Option Addr) (m capI : Nat) (d : Nat → Nat) (ha : In64 a) (hb : In64 b) (hL : L.length ≤ 1000000) (hd : ∀ i, d i < 256) (hm : m ≤ capI) (hmI : capI ≤ maxLen) (w : World)
    (hSl : Sl w (.slice AL L.length capL) 4 L.length (cellsP L)) (hI : Byt w AI m d) :
    Calls Try.prog 16 #[.agg #[.slice AL L.length capL, .int .i64 cl], .int .i64 a, .int .i64 b, .slice AI m capI] w fun e w' => drawPost a b m L d w e w' ∧ Below w.heap.size w w' := by
  obtain ⟨q0, q1, q2, q3⟩ := two_boxes w #[.slice AL L.length capL, .int .i64 cl] #[.int .i64 0, .int .i64 0, .slice none 0 0] 32 24
  unfold maxLen at hmI
  go_enter Try.func16, Try.ntmps16
  go_wp2_with fail
  refine (new_ref a b ha hb _).mono ?_
  rintro e w2 ⟨hB, ⟨hz, v, rfl, hown⟩ | ⟨hz, rfl⟩⟩
  case inr =>
    have hs2 := hB.size
    rw [q0] at hB hs2
    have r1 := hp_below q2 hB (by omega)
    have l0 := hp_cell (j := 0) r1 rfl
    have l1 := hp_cell (j := 1) r1 rfl
    have l2 := hp_cell (j := 2) r1 rfl
    have lf : ∀ j, w2.frozen? ⟨w.heap.size + 1, j, none⟩ = false := fun j => by simp [World.frozen?, r1]
    have t1 : (sizeE a b == 0) = false := by rw [beq_eq_false_iff_ne]; exact hz
    have t2 : (sizeE a b != 0) = true := by rw [bne_iff_ne]; exact hz
    have HB := Lib.hid (q3.trans (hB.mono (by omega)))
    have hne : ¬w2.heap.size = w.heap.size + 1 := by omega
    have he : drawE a b m L d = sizeE a b := by unfold drawE; rw [if_pos hz]
    have HP := Lib.hid he
    have HZ := Lib.hid hz
    have hne : ¬w2.heap.size = w.heap.size + 1 := by omega
    have p1 := hp_alloc (.cells #[.int .i64 0, .int .i64 0, .slice none 0 0] 24) r1
    have k0 := hp_cell (j := 0) p1 rfl
    have k1 := hp_cell (j := 1) p1 rfl
    have k2 := hp_cell (j := 2) p1 rfl
    have kf : ∀ j, (w2.alloc (.cells #[.int .i64 0, .int .i64 0, .slice none 0 0] 24)).frozen? ⟨w.heap.size + 1, j, none⟩ = false := fun j => by simp [World.frozen?, p1]
    clear hB q0 q1 q2 q3 he hz r1 p1 hSl hI
    go_wp2
    refine bodyPost_ret (v := .tuple #[.agg #[.int .i64 0, .int .i64 0, .slice none 0 0], .int .i64 (sizeE a b)]) (by rw [results_cell_tmp rfl]; go_simp) rfl ?_
    refine ⟨.inr ⟨by rw [HP.out]; exact HZ.out, by rw [HP.out]⟩, ?_⟩
    exact below3 (HB.out.alloc HB.out.size _) (by omega) _ _ _
  case inl =>
    obtain ⟨s1, s2, s3, s4, s5⟩ := size_ok hz
    obtain ⟨N, hN⟩ : ∃ N : Nat, a * b = (N : Int) := ⟨(a * b).toNat, by have := Int.mul_nonneg (show 0 ≤ a by omega) (show 0 ≤ b by omega); omega⟩
    have hN1 : 1 ≤ N := by have := Int.mul_pos (show 0 < a by omega) (show 0 < b by omega); omega
    have hN2 : N ≤ 16384 := by omega
    have h4N : (4 * a * b).toNat = 4 * N := by rw [Int.mul_assoc, hN]; omega
    rw [h4N] at hown
    have hw : wrap64 (a * b) = (N : Int) := (IntWalk.wrap64_in _ (by omega)).trans hN
    obtain ⟨hlen, hf⟩ := hown
    rcases hf with ⟨rfl, h0⟩ | ⟨g, cap, cur, rfl, hgb, hg, hnc, hcm, hcs, ht⟩
    · exact absurd h0 (by omega)
    have hgl : g < w2.heap.size := (Array.getElem?_eq_some_iff.1 hg).1
    have hs2 := hB.size
    rw [q0] at hB hs2 hgb
    have r0 := hp_alloc (.cells #[.int .i64 a, .int .i64 b, .slice (some ⟨g, 0, none⟩) (4 * N) cap] 24) (hp_below q1 hB (by omega))
    have r1 := hp_alloc (.cells #[.int .i64 a, .int .i64 b, .slice (some ⟨g, 0, none⟩) (4 * N) cap] 24) (hp_below q2 hB (by omega))
    have r2 := hp_new0 w2 (.cells #[.int .i64 a, .int .i64 b, .slice (some ⟨g, 0, none⟩) (4 * N) cap] 24)
    have hg2 := hp_alloc (.cells #[.int .i64 a, .int .i64 b, .slice (some ⟨g, 0, none⟩) (4 * N) cap] 24) hg
    have hB2 := q3.trans (hB.mono (by omega))
    have hB3 := hB2.alloc hB2.size (.cells #[.int .i64 a, .int .i64 b, .slice (some ⟨g, 0, none⟩) (4 * N) cap] 24)
    have HZ := Lib.hid hz
    have HNN := Lib.hid hN
    have HB3 := Lib.hid hB3
    have hgR : g ≠ w2.heap.size := by omega
    have hRw : w.heap.size + 2 ≤ w2.heap.size := by omega
    have hcsz : 4 * N ≤ cur.size := by omega
    clear q0 q1 q2 q3 hz hN h4N hg hB hB2 ht hlen hcs s5 hB3
    have l0 := hp_cell (j := 0) r1 rfl
    have l1 := hp_cell (j := 1) r1 rfl
    have l2 := hp_cell (j := 2) r1 rfl
    have lf : ∀ j, (w2.alloc (.cells #[.int .i64 a, .int .i64 b, .slice (some ⟨g, 0, none⟩) (4 * N) cap] 24)).frozen? ⟨w.heap.size + 1, j, none⟩ = false := fun j => by simp [World.frozen?, r1]
    have hmN : m < N ∨ N < m ∨ m = N := by omega
    rcases hmN with hlt | hgt | rfl
    · have t1 : decide (m < N) = true := by simpa using hlt
      have he : drawE a b m L d = 2 := by unfold drawE; rw [if_neg (by simpa using HZ.out), if_pos (by have := HNN.out; omega)]
      have HE := Lib.hid he
      clear he
      go_wp2
      refine bodyPost_ret (v := .tuple #[.agg #[.int .i64 0, .int .i64 0, .slice none 0 0], .int .i64 2]) (by rw [results_cell_tmp rfl]; go_simp) rfl ?_
      exact ⟨.inr ⟨by rw [HE.out]; decide, by rw [HE.out]⟩, below3 HB3.out (by omega) _ _ _⟩
    · have t1 : decide (m < N) = false := by simp; omega
      have t2 : decide (N < m) = true := by simpa using hgt
      have he : drawE a b m L d = 3 := by unfold drawE; rw [if_neg (by simpa using HZ.out), if_neg (by have := HNN.out; omega), if_pos (by have := HNN.out; omega)]
      have HE := Lib.hid he
      clear he
      go_wp2
      refine bodyPost_ret (v := .tuple #[.agg #[.int .i64 0, .int .i64 0, .slice none 0 0], .int .i64 3]) (by rw [results_cell_tmp rfl]; go_simp) rfl ?_
      exact ⟨.inr ⟨by rw [HE.out]; decide, by rw [HE.out]⟩, below3 HB3.out (by omega) _ _ _⟩
    · have hee : badIx m L d = true → drawE a b m L d = 4 := fun h => by unfold drawE; rw [if_neg (by simpa using HZ.out), if_neg (by have := HNN.out; omega), if_neg (by have := HNN.out; omega), if_pos h]
      have hef : badIx m L d = false → drawE a b m L d = 0 := fun h => by unfold drawE; rw [if_neg (by simpa using HZ.out), if_neg (by have := HNN.out; omega), if_neg (by have := HNN.out; omega), if_neg (by simp [h])]
      have HEE := Lib.hid hee
      have HEF := Lib.hid hef
      have hDS : DS 32 w a b AL L.length capL cl w2.heap.size g m cap L d 0 _ := ⟨HB3.out, r0, r1, r2, cur, hg2, hcsz, fun j hj => absurd hj (by omega)⟩
      clear hee hef r0 r1 r2 hg2
      go_wp2_with fail
      clear l0 l1 l2 lf
      generalize w2.alloc (.cells #[.int .i64 a, .int .i64 b, .slice (some ⟨g, 0, none⟩) (4 * m) cap] 24) = w3 at *
      generalize w2.heap.size = R at *
      go_loopw [12] (fun v wr => ∃ i : Nat, i ≤ m ∧ v = .int .i64 i ∧ (∀ j, j < i → d j < L.length) ∧ DS 32 w a b AL L.length capL cl R g m cap L d i wr) (fun v _ => m - (intOf v).toNat)
      case atStart => exact ⟨0, by omega, rfl, fun j hj => absurd hj (by omega), hDS⟩
      case round =>
        clear hDS
        obtain ⟨i, hi, rfl, hgood, hS⟩ := hrel
        have HGd := Lib.hid hgood
        clear hgood
        have k0 := hp_cell (j := 0) hS.pal rfl
        have l0 := hp_cell (j := 0) hS.res rfl
        have l1 := hp_cell (j := 1) hS.res rfl
        have l2 := hp_cell (j := 2) hS.res rfl
        have lf : ∀ j, wr.frozen? ⟨w.heap.size + 1, j, none⟩ = false := fun j => by simp [World.frozen?, hS.res]
        have x0 := hp_cell (j := 0) hS.box rfl
        have x1 := hp_cell (j := 1) hS.box rfl
        have x2 := hp_cell (j := 2) hS.box rfl
        by_cases hlt : i < m
        · obtain ⟨bI, oI, rfl, hbI, hcI⟩ := hI.below hS.below (by omega)
          have c0 := hcI i hlt
          have hdi := hd i
          clear hcI
          by_cases hbad : L.length ≤ d i
          · have t1 : decide (L.length ≤ d i) = true := by simpa using hbad
            have HE := Lib.hid (HEE.out (bad_t hlt hbad))
            have HSb := Lib.hid hS.below
            clear hS hbad
            go_wp2_with fail
            go_quiet (fail)
            go_wp2
            refine bodyPost_ret (v := .tuple #[.agg #[.int .i64 0, .int .i64 0, .slice none 0 0], .int .i64 4]) (by rw [results_cell_tmp rfl]; go_simp) rfl ?_
            exact ⟨.inr ⟨by rw [HE.out]; decide, by rw [HE.out]⟩, below3 (below_drewN HSb.out _) (by omega) _ _ _⟩
          · have t1 : decide (L.length ≤ d i) = false := by simpa using hbad
            have hdl : d i < L.length := by omega
            have hdI : ((d i : Nat) : Int) < (L.length : Int) := by omega
            obtain ⟨p, hp⟩ : ∃ p, L[d i]? = some p := ⟨L[d i], List.getElem?_eq_getElem hdl⟩
            have hpc : colAt L (d i) = p := by unfold colAt; rw [hp]; rfl
            have HX := Lib.hid (show ∀ q, DS 32 w a b AL L.length capL cl R g m cap L d i (wr.drewN q) from fun q => hS.drewN q)
            have HP2 := Lib.hid hp
            have HPC := Lib.hid hpc
            clear hS hp hpc
            go_wp2_with fail
            go_quiet (fail)
            have hS := HX.out nq
            have hp := HP2.out
            have hpc := HPC.out
            clear HX k0 l0 l1 l2 lf x0 x1 x2 c0
            generalize wr.drewN nq = wr9 at *
            have k0 := hp_cell (j := 0) hS.pal rfl
            have x0 := hp_cell (j := 0) hS.box rfl
            have x1 := hp_cell (j := 1) hS.box rfl
            have x2 := hp_cell (j := 2) hS.box rfl
            have c0 : wr9.cell? ⟨bI, oI + i, none⟩ = some (.int .u8 (d i : Nat)) := by
              obtain ⟨_, _, he, _, hcI⟩ := hI.below hS.below (by omega)
              cases he
              exact hcI i hlt
            obtain ⟨bL, oL, rfl, hbL, hcL⟩ := (hSl.below hS.below).cell (by omega)
            obtain ⟨cur', hg', hs', hc'⟩ := hS.row
            have hrun := run_copy_row (P := Try.prog) wr9.drew 22 22 3 46 g (4 * i) 4 (cap - 4 * i) ⟨bL, oL + d i * 4, none⟩ 4 4 cur' _ (cP p) Try.underlying22 size38 hg' (show 4 = Nat.min 4 4 from rfl)
              (by
                intro j v hj
                have hj4 : j < 4 := by have := (List.getElem?_eq_some_iff.1 hj).1; simpa [cP] using this
                rw [Addr.add_lit, Nat.add_assoc]
                exact (hcL (d i * 4 + j) (by omega)).trans ((cellsP_get L (d i) p hp j hj4).trans hj)) (by simp [cP]; omega) (cP_one p)
            change _ = Result.ok _ (wr9.drew.setRow g (setCur cur' i (cP p))) at hrun
            have HN := Lib.hid (hS.step hg' hs' hc' hlt hpc (by omega) hgR)
            have HGn := Lib.hid (all_snoc' (p := fun j => d j < L.length) HGd.out hdl)
            have hck : ¬cap = 4 * i := by omega
            have hlI : (4 : Int) * (i : Int) + 4 ≤ 4 * (m : Int) := by omega
            have v3 : IntKind.i64.wrap (4 * (i : Int)) = 4 * (i : Int) := IntWalk.i64_in _ (by omega)
            have v4 : IntKind.i64.wrap (4 * (i : Int) + 4) = 4 * (i : Int) + 4 := IntWalk.i64_in _ (by omega)
            have hl4 : (cP p).length = 4 := rfl
            rw [hl4] at hrun
            clear hS hbad hp hpc hcL hg' hs' hc' hl4
            go_wp2_with fail
            go_region
            go_wp2
            go_roundw
            case rel => exact ⟨i + 1, by omega, by go_num, HGn.out, HN.out⟩
            case measure => simp [intOf]; omega
        · obtain rfl : i = m := by omega
          have HE := Lib.hid (HEF.out (bad_f HGd.out))
          obtain ⟨cur', hg', hs', hc'⟩ := hS.row
          have hO : Own (w.heap.size + 2) wr (some ⟨g, 0, none⟩) (4 * i) (drawC L d) := fun _ => ⟨g, cur', rfl, by omega, hg', hs', hc'⟩
          have HO := Lib.hid hO
          have HSb := Lib.hid hS.below
          have HAB := Lib.hid HNN.out.symm
          clear hS hg' hs' hc' hO
          go_wp2
          refine bodyPost_ret (v := .tuple #[.agg #[.int .i64 a, .int .i64 b, .slice (some ⟨g, 0, none⟩) (4 * i) cap], .int .i64 0]) (by rw [results_cell_tmp rfl]; go_simp) rfl ?_
          exact ⟨.inl ⟨HE.out, HAB.out, _, cap, rfl, hnc, hcm, (fun h => by cases h), (((HO.out.set (g := w.heap.size + 1) (by omega) 0 _).set (g := w.heap.size + 1) (by omega) 1 _).set (g := w.heap.size + 1) (by omega) 2 _).le (by omega)⟩, below3 HSb.out (by omega) _ _ _⟩
end Go.Proofs.Ytnjlklcggcfcgaa
