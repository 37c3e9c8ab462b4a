/- Words for memory: a slice that reads as a list of cells; what stays. From a law's walk to its row: whatever the parameters: the arguments read behind the call as before, since nothing that was there has changed. A slice that came in, as a list of cells; each element's own reading. Contracts of raster's plain functions: Size, May, of the program and of the reference. depth's plain functions: Up, Mask, Eight, of the program and of the reference. slices.Chunk over []uint16, by fours: the iterator's contract. raster.Colours: how many unlike pixels, at every picture. raster.New, of the program and of the reference. -/
import Derived.WalkKit
import Derived.Below
import Derived.Laws.OwnMore
import Derived.Deep.Draws
import Derived.Laws.Rows
import Derived.ProofKit
import Derived.SizedLaws
import Derived.OpenShut
import Derived.ChangeCalls
import Derived.Deep.Slices
import Derived.Test.YthgafdbdmemkhaaDoorRows
import Derived.WalkLawsBesides
import Derived.WalkSpells
import Derived.Outline
import Derived.Lib.Hide
import Derived.Deep.QuietTactic
import Derived.BigQuiet
import Derived.RangeFuncWrites
import Derived.RangeFuncLeaves
import Derived.Shelf.Abstract
import Derived.OwnWalkIn
import Derived.TacticsInMore
import Derived.LoopNIn
import Derived.LoopIn
import Derived.RegionIn
import Derived.BigRegionIn
import Derived.Maps.OwnIn
import Derived.Maps.Views
import Derived.Sort.MapsRangeIn
import Derived.DeepKeys4
import Derived.RangeFuncNested
import Derived.RangeFuncCalls
import Derived.Shelf.RegionOpen
import Derived.Laws.ResultCell
import Derived.Laws.CopyOwn
import Derived.Maps.AppendAt
namespace Go.Proofs.YthgafdbdmemkhaaDoor
set_option maxRecDepth 100000
open Go.RowKit

theorem below_drewN {B : Nat} {a w : World} (h : Below B a w) (n : Nat) : Below B a (w.drewN n) := ⟨h.os, h.tape, h.output, h.size, h.block⟩
theorem below_setRow {B : Nat} {a w : World} (h : Below B a w) {g : Nat} (hg : B ≤ g) (xs : Array Value) : Below B a (w.setRow g xs) :=
  h.trans ⟨rfl, rfl, rfl, by simp [World.setRow], fun k hk => setRow_other w g k xs (by omega)⟩
theorem lt_of_cell {w : World} {p : Addr} {u : Value} (h : w.cell? p = some u) : p.block < w.heap.size := World.block_lt_of_cell? w p h

/-- The slice value v reads as the cells xs, 'size' cells an element. -/
structure Sl (w : World) (v : Value) (size n : Nat) (xs : List Value) : Prop where
  len : xs.length = n * size
  form : ∃ A cap, v = .slice A n cap ∧ n ≤ cap ∧ cap ≤ maxLen ∧ (0 < n → ∃ b off, A = some ⟨b, off, none⟩ ∧ b < w.heap.size ∧ ∀ j (_ : j < n * size), w.cell? ⟨b, off + j, none⟩ = xs[j]?)

theorem Sl.below {w w' : World} {v : Value} {size n : Nat} {xs : List Value} (h : Sl w v size n xs) (hb : Below w.heap.size w w') : Sl w' v size n xs := by
  obtain ⟨hl, A, cap, rfl, h1, h2, h3⟩ := h
  refine ⟨hl, A, cap, rfl, h1, h2, fun hn => ?_⟩
  obtain ⟨b, off, rfl, hlt, hc⟩ := h3 hn
  exact ⟨b, off, rfl, Nat.lt_of_lt_of_le hlt hb.size, fun j hj => (hb.cell (p := ⟨b, off + j, none⟩) hlt).trans (hc j hj)⟩
theorem Sl.nil (w : World) (size : Nat) : Sl w (.slice none 0 0) size 0 [] := ⟨by simp, none, 0, rfl, Nat.le_refl _, by simp [maxLen], fun h => absurd h (by omega)⟩
theorem Sl.of_own {w : World} {base : Nat} {e : TypeId} {size n : Nat} {v : Value} {xs : List Value} (h : w.ownsRow base e size v n xs) : Sl w v size n xs := by
  refine ⟨h.1, ?_⟩
  rcases h.2 with ⟨rfl, rfl⟩ | ⟨g, cap, cur, rfl, hb, hg, hnc, hcm, hcs, ht⟩
  · exact ⟨none, 0, rfl, Nat.le_refl _, by simp [maxLen], fun h => absurd h (by omega)⟩
  · refine ⟨_, cap, rfl, hnc, hcm, fun _ => ⟨g, 0, rfl, (Array.getElem?_eq_some_iff.1 hg).1, fun j hj => ?_⟩⟩
    rw [cell_of_row w g _ cur e (0, 0) hg, ← ht]
    simp [hj]
theorem Sl.cell {w : World} {A : Option Addr} {cap size n : Nat} {xs : List Value} (h : Sl w (.slice A n cap) size n xs) (hn : 0 < n) :
    ∃ b off, A = some ⟨b, off, none⟩ ∧ b < w.heap.size ∧ ∀ j (_ : j < n * size), w.cell? ⟨b, off + j, none⟩ = xs[j]? := by
  obtain ⟨_, A', cap', he, _, _, h3⟩ := h
  injection he with e1 e2 e3
  subst e1
  exact h3 hn
end Go.Proofs.YthgafdbdmemkhaaDoor

namespace Go.Proofs.YthgafdbdmemkhaaDoor
set_option maxRecDepth 100000
open Go.ChangeShapes Go.WideShapes Go.ChangeAt Go.RowKit

section
variable {H : Type} {enc : TypeId × Value → H} {P : Program}

theorem trodAll_below (hl : laidOutB P = true) {W W' : World} (hb : Below W.heap.size W W') : ∀ {ts : List TypeId} {vs : List Value} {ds : List (DataW H)} {ps : List MemPlace},
    (∀ t, t ∈ ts → P.readableRec t = true ∧ t < P.types.size) → (∀ x, x ∈ ps → x.block < W.heap.size) →
    DataW.TrodAll enc P W 0 (fun _ => true) true ts vs ds ps → DataW.TrodAll enc P W' 0 (fun b => decide (b < W.heap.size)) true ts vs ds ps
  | [], vs, ds, ps, _, _, h => by
    obtain ⟨rfl, rfl, rfl⟩ := trodAll_nil h
    exact trodAll_mk0
  | t :: ts, vs, ds, ps, hr, hlt, h => by
    obtain ⟨v, vs', d, ds', p, q, rfl, rfl, rfl, h1, h2⟩ := trodAll_cons h
    exact trodAll_cons_mk (Below.trod hl (hr t (by simp)).1 (hr t (by simp)).2 h1 hb (fun x hx => hlt x (by simp [hx])))
      (trodAll_below hl hb (fun t' ht' => hr t' (by simp [ht'])) (fun x hx => hlt x (by simp [hx])) h2)

theorem law_post {f : Func} {s : ChangeSpec} {tb : TypeId} {W W' : World} {args : Array Value} {ds gs : List (DataW H)} {before : List MemPlace}
    (hl : laidOutB P = true) (hu : P.underlying tb = some .bool) (hres : f.resultTypes = #[tb]) (hvars : s.vars = [])
    (hr : ∀ t, t ∈ f.params.toList → P.readableRec t = true ∧ t < P.types.size)
    (hspec : ∀ ds : List (DataW H), ds.length = f.params.size → s.fn H (ds ++ []) = { results := [.lit (.bool true)], args := ds })
    (hW : DataW.Whole enc P f.params.toList s.vars false W args.toList ds gs before) (hb : Below W.heap.size W W') :
    s.post enc P f false true false false W args (.bool true) W' := by
  have hW2 := hW
  obtain ⟨p, q, hA, hV, hpq, hz, hn⟩ := hW2
  rw [hvars] at hV
  obtain ⟨hgs, hq⟩ := trodVars_none hV
  subst hgs hq hpq
  have hlen := (trodAll_length hA).2
  have hsp := hspec ds (by simpa using hlen)
  refine ⟨ds, [], p ++ [], [], p, [], hW, ?_, ?_, ?_, ?_, fun h => by cases h⟩
  · rw [hsp, hres]
    exact trodAll_mk1 (shut_bool hu true)
  · rw [hsp]
    exact trodAll_below hl hb hr (fun x hx => hW.lt x (by simp [hx])) hA
  · rw [hsp, hvars]
    exact rfl
  · exact World.keptBut_mono (fun x hx => ⟨by simpa using hx, .inr (.inl (by simpa using hx))⟩) (hb.frame (· ∈ p))

theorem law_returns {C : Checked} {os : Os} {f : FuncId} {fn : Func} {s : ChangeSpec} {conds : List PathCond} {tb : TypeId} (own : ownKnob C.prog.godebug = none) (started : os.Started)
    (hi : C.prog.inits.idxOf? f = none) (hf : C.prog.funcs[f]? = some fn)
    (hl : laidOutB C.prog = true) (hu : C.prog.underlying tb = some .bool) (hres : fn.resultTypes = #[tb]) (hvars : s.vars = [])
    (hr : ∀ t, t ∈ fn.params.toList → C.prog.readableRec t = true ∧ t < C.prog.types.size)
    (hspec : ∀ ds : List (DataW H), ds.length = fn.params.size → s.fn H (ds ++ []) = { results := [.lit (.bool true)], args := ds })
    (wit : ∃ (w : World) (tape : Tape) (i : Input), w.os = os ∧ World.Shaped C.prog (w.forCall tape i) ∧ i.vars = [] ∧ Input.okWide C.prog (w.forCall tape i) Reach.any w.heap.size f i ∧
      ChangeSpec.pre6 enc C.prog fn s conds false (w.forCall tape i).memory i.args ∧ ({} : Assume).holds C.prog (lone (Frame.enter C.prog f i.args CallKind.normal) [] (w.forCall tape i)))
    (con : ∀ (W : World) (base : Nat) (args : Array Value) (ds : List (DataW H)) (p : List MemPlace),
      (∀ (j : Nat) (t : TypeId) (v : Value), fn.params[j]? = some t → args[j]? = some v → Value.okWide C.prog W Reach.any base t v) →
      DataW.TrodAll enc C.prog W 0 (fun _ => true) true fn.params.toList args.toList ds p → W.noneFrozen p →
      ((DataW.weightsEach C.prog fn.params.toList ds).all fun x => decide (x ≤ reachBytes)) = true →
      Calls C.prog f args W fun e W' => e = .returned (.bool true) ∧ Below W.heap.size W W') :
    ReturnsInHanded {} C os f Reach.any (ChangeSpec.pre6 enc C.prog fn s conds false) (ChangeSpec.post enc C.prog fn s false true false false) := by
  refine returnsInHanded_of_change_sized own started hi hf wit ?_
  intro W base args ds gs before hval hW _ hsz _
  have hW2 := hW
  obtain ⟨p, q, hA, hV, hpq, hz, hn⟩ := hW2
  rw [hvars] at hV
  obtain ⟨hgs, hq⟩ := trodVars_none hV
  subst hgs hq hpq
  have hsz' : ((DataW.weightsEach C.prog fn.params.toList ds).all fun x => decide (x ≤ reachBytes)) = true := by
    have e : DataSpec.varTypes C.prog s.plain = [] := by
      unfold DataSpec.varTypes
      have : s.plain.vars = [] := hvars
      simp [this]
    rw [e] at hsz
    simpa using hsz
  refine (con W base args ds p hval hA (by simpa using hz) hsz').mono fun e W' ⟨he, hb⟩ => ?_
  exact ⟨_, he, law_post hl hu hres hvars hr hspec hW hb⟩
end
end Go.Proofs.YthgafdbdmemkhaaDoor

namespace Go.Proofs.YthgafdbdmemkhaaDoor
set_option maxRecDepth 100000
open Go.ChangeShapes Go.WideShapes Go.ChangeAt Go.RowKit

section
variable {H : Type} {enc : TypeId × Value → H} {P : Program} {w : World}
theorem flat_get {size n : Nat} (E : Nat → List Value) (hE : ∀ i, i < n → (E i).length = size) (i j : Nat) (hi : i < n) (hj : j < size) : ((List.range n).flatMap E)[i * size + j]? = (E i)[j]? := by
  induction n generalizing i with
  | zero => omega
  | succ n ih =>
    rw [List.range_succ, List.flatMap_append]
    have hlen : ((List.range n).flatMap E).length = n * size := by
      clear ih hi
      induction n with
      | zero => simp
      | succ m ihm =>
        rw [List.range_succ, List.flatMap_append, List.length_append, ihm (fun i hi => hE i (by omega))]
        simp [hE m (by omega), Nat.add_mul]
    by_cases h : i < n
    · rw [List.getElem?_append_left, ih (fun i hi => hE i (by omega)) i h]
      rw [hlen]
      calc i * size + j < i * size + size := by omega
        _ = (i + 1) * size := by rw [Nat.add_mul]; omega
        _ ≤ n * size := Nat.mul_le_mul_right _ h
    · obtain rfl : i = n := by omega
      rw [List.getElem?_append_right (by rw [hlen]; omega), hlen]
      simp
theorem flat_len {size n : Nat} (E : Nat → List Value) (hE : ∀ i, i < n → (E i).length = size) : ((List.range n).flatMap E).length = n * size := by
  induction n with
  | zero => simp
  | succ m ihm =>
    rw [List.range_succ, List.flatMap_append, List.length_append, ihm (fun i hi => hE i (by omega))]
    simp [hE m (by omega), Nat.add_mul]

/-- A slice that came in: its elements' cells, and that each reads. -/
theorem open_sl {r : Reach} {b0 : Nat} {t e size : Nat} {v : Value} {d : DataW H} {p : List MemPlace} (ht : P.underlying t = some (.slice e)) (hsz : P.cellsOf e = size) (hpos : 0 < size)
    (hv : Value.okWide P w r b0 t v) (h : DataW.Trod enc P w 0 (fun _ => true) true t v d p) :
    ∃ (n : Nat) (E : Nat → List Value), Sl w v size n ((List.range n).flatMap E) ∧ (∀ i, i < n → (E i).length = size) ∧
      ∀ i, i < n → ∃ fuel y, DataW.trod enc P w 0 (fun _ => true) true fuel e (E i) = some y := by
  obtain ⟨a0, len, cap, rfl⟩ := okWide_slice ht hv
  obtain ⟨fuel, hf⟩ := h
  rcases Go.Deep.open_slice ht hf with ⟨hcs, _⟩ | ⟨a, len', cap', m, n, D, Pl, hcs, _, hl, hm, hmm, _, hx⟩
  · simp [Value.cells] at hcs
    obtain ⟨rfl, rfl, rfl⟩ := hcs
    exact ⟨0, fun _ => [], by simpa using Sl.nil w size, fun i hi => by omega, fun i hi => by omega⟩
  · simp [Value.cells] at hcs
    obtain ⟨rfl, rfl, rfl⟩ := hcs
    simp only [if_true] at hmm
    subst hmm
    have hx' : ∀ i, i < len → ∃ cs' : List Value, w.cells? 0 (a.add (i * P.cellsOf e)) (P.cellsOf e) = some cs' ∧ DataW.trod enc P w 0 (fun _ => true) true n e cs' = some (D i, Pl i) := fun i hi => hx i (by omega)
    obtain ⟨E, hE⟩ := Go.Deep.choose_lt (α := List Value) hx'
    have hlen : ∀ i, i < len → (E i).length = size := fun i hi => by
      obtain ⟨_, h2, _⟩ := World.cells?_some (hE i hi).1
      rw [← hsz]; exact h2
    have hcell : ∀ i j, i < len → j < size → w.cell? (a.add (i * size + j)) = (E i)[j]? := fun i j hi hj => by
      obtain ⟨_, h2, h3⟩ := World.cells?_some (hE i hi).1
      have hj' : j < P.cellsOf e := by rw [hsz]; exact hj
      have := h3 j hj'
      rw [Go.Deep.add_add, hsz] at this
      exact this
    refine ⟨len, E, ⟨flat_len E hlen, some a, _, rfl, hl, hm, fun hn => ?_⟩, hlen, fun i hi => ⟨n, _, (hE i hi).2⟩⟩
    have h00 := hcell 0 0 hn hpos
    have hs0 : (E 0)[0]? = some ((E 0)[0]'(by rw [hlen 0 hn]; exact hpos)) := List.getElem?_eq_getElem _
    rw [hs0] at h00
    have hspot : a.spot = none := by
      have e0 : a.add (0 * size + 0) = a := by simp [Addr.add]
      rw [e0] at h00
      unfold World.cell? at h00
      split at h00
      · split at h00
        · cases h00
        · rename_i hsp
          cases hs : a.spot with
          | none => rfl
          | some x => rw [hs] at hsp; simp at hsp
      · cases h00
    obtain ⟨b, off, sp⟩ := a
    simp only at hspot
    subst hspot
    have hb : b < w.heap.size := by
      have := World.block_lt_of_cell? w _ h00
      simpa [Addr.add] using this
    refine ⟨b, off, rfl, hb, fun j hj => ?_⟩
    have hi : j / size < len := Nat.div_lt_of_lt_mul (by rw [Nat.mul_comm]; exact hj)
    have hr : j % size < size := Nat.mod_lt _ hpos
    have hdm : j / size * size + j % size = j := by rw [Nat.mul_comm]; exact Nat.div_add_mod j size
    have h1 := hcell (j / size) (j % size) hi hr
    have h2 := flat_get (n := len) E hlen (j / size) (j % size) hi hr
    rw [hdm] at h1 h2
    rw [h2, ← h1, Addr.add_lit]
end
end Go.Proofs.YthgafdbdmemkhaaDoor

namespace Go.Proofs.YthgafdbdmemkhaaDoor
set_option maxRecDepth 100000
set_option linter.unusedVariables false
open Go.ChangeShapes Go.WideShapes Go.ChangeAt Go.RowKit

theorem ret_i {k : IntKind} {a b : Int} (h : a = b) : Ending.returned (.int k a) = .returned (.int k b) := by rw [h]
theorem ret_b {b b' : Bool} (h' : b = b') : Ending.returned (.bool b) = .returned (.bool b') := by rw [h']
theorem ret2_ib {k : IntKind} {a a' : Int} {b b' : Bool} (h : a = a') (h' : b = b') : Ending.returned (.tuple #[.int k a, .bool b]) = .returned (.tuple #[.int k a', .bool b']) := by rw [h, h']
theorem quiet_left {P : Program} {f : FuncId} {args : Array Value} {w : World} {n : Nat} {v : Value}
    (h : Calls P f args (w.drewN n) fun e w' => e = .returned v ∧ w.drewN n = w') : Calls P f args (w.drewN n) fun e w'' => e = .returned v ∧ ∃ m, w'' = w.drewN m :=
  h.mono fun _ _ ⟨he, hm⟩ => ⟨he, n, hm.symm⟩
def In64 (a : Int) : Prop := -9223372036854775808 ≤ a ∧ a ≤ 9223372036854775807
theorem mul_bd (n b N B : Int) (h0 : 0 ≤ n) (h1 : n ≤ N) (h2 : 0 ≤ b) (h3 : b ≤ B) : 0 ≤ n * b ∧ n * b ≤ N * B :=
  ⟨Int.mul_nonneg h0 h2, Int.mul_le_mul h1 h3 h2 (by omega)⟩

/-- Whether sides may be: 0, or the error's number. -/
def sizeE (w h : Int) : Int := if w < 1 ∨ h < 1 then 1 else if 256 < w ∨ 256 < h ∨ 16384 / h < w then 6 else 0
theorem size_ok {a b : Int} (h : sizeE a b = 0) : 1 ≤ a ∧ a ≤ 256 ∧ 1 ≤ b ∧ b ≤ 256 ∧ a * b ≤ 16384 := by
  unfold sizeE at h
  split at h
  · omega
  · split at h
    · omega
    · rename_i h1 h2
      have h3 : a ≤ 16384 / b := by omega
      rw [Int.le_ediv_iff_mul_le (by omega)] at h3
      omega
theorem sizeE_bd (a b : Int) : 0 ≤ sizeE a b ∧ sizeE a b ≤ 6 := by
  unfold sizeE
  split
  · omega
  · split <;> omega
/-- Whether sides and so many samples are a picture. -/
def mayB (w h : Int) (n : Nat) : Bool := decide (sizeE w h = 0 ∧ (n : Int) = 4 * w * h)
theorem may_ok {a b : Int} {n : Nat} (h : mayB a b n = true) : sizeE a b = 0 ∧ (n : Int) = 4 * a * b := by simpa [mayB] using h

theorem size_prog (a b : Int) (ha : In64 a) (hb : In64 b) (w : World) :
    Calls Tryd.prog 29 #[.int .i64 a, .int .i64 b] w fun e w' => e = .returned (.int .i64 (sizeE a b)) ∧ w = w' := by
  obtain ⟨ha, ha'⟩ := ha
  obtain ⟨hb, hb'⟩ := hb
  by_cases h1 : a < 1
  · go_enter Tryd.func29, Tryd.ntmps29
    go_wp2
    go_ret
    exact ⟨ret_i (by simp [sizeE, h1]), rfl⟩
  · by_cases h2 : b < 1
    · go_enter Tryd.func29, Tryd.ntmps29
      go_wp2
      go_ret
      exact ⟨ret_i (by simp [sizeE, h2]), rfl⟩
    · go_enter Tryd.func29, Tryd.ntmps29
      go_wp2
      all_goals go_ret
      all_goals refine ⟨ret_i ?_, rfl⟩
      all_goals (unfold sizeE; rw [if_neg (by omega)]; first | rw [if_pos (by omega)] | rw [if_neg (by omega)])
theorem size_ref (a b : Int) (ha : In64 a) (hb : In64 b) (w : World) :
    Calls Tryd.prog 19 #[.int .i64 a, .int .i64 b] w fun e w' => e = .returned (.int .i64 (sizeE a b)) ∧ w = w' := by
  obtain ⟨ha, ha'⟩ := ha
  obtain ⟨hb, hb'⟩ := hb
  by_cases h1 : a < 1
  · go_enter Tryd.func19, Tryd.ntmps19
    go_wp2
    go_ret
    exact ⟨ret_i (by simp [sizeE, h1]), rfl⟩
  · by_cases h2 : b < 1
    · go_enter Tryd.func19, Tryd.ntmps19
      go_wp2
      go_ret
      exact ⟨ret_i (by simp [sizeE, h2]), rfl⟩
    · go_enter Tryd.func19, Tryd.ntmps19
      go_wp2
      all_goals go_ret
      all_goals refine ⟨ret_i ?_, rfl⟩
      all_goals (unfold sizeE; rw [if_neg (by omega)]; first | rw [if_pos (by omega)] | rw [if_neg (by omega)])

theorem may_prog (a b : Int) (A : Option Addr) (n cap : Nat) (ha : In64 a) (hb : In64 b) (hn : n ≤ cap) (hc : cap ≤ maxLen) (w : World) :
    Calls Tryd.prog 13 #[.agg #[.int .i64 a, .int .i64 b, .slice A n cap]] w fun e w' => e = .returned (.bool (mayB a b n)) ∧ Below w.heap.size w w' := by
  unfold maxLen at hc
  by_cases hz : sizeE a b = 0
  · obtain ⟨h1, h2, h3, h4, h5⟩ := size_ok hz
    have m1 := mul_bd (4 * a) b 1024 256 (by omega) (by omega) (by omega) h4
    obtain ⟨m10, m11⟩ := m1
    have hz' : (sizeE a b == 0) = true := by simp [hz]
    have hv : mayB a b n = ((n : Int) == 4 * a * b) := by
      simp only [mayB, hz, true_and]
      rw [Bool.eq_iff_iff]
      simp
    have HV := Lib.hid hv
    clear hz hv
    go_enter Tryd.func13, Tryd.ntmps13
    go_wp2_with (go_at_call 29; refine (size_prog _ _ ha hb _).mono ?_; rintro e w' ⟨rfl, rfl⟩)
    go_ret
    exact ⟨ret_b HV.out.symm, (Below.refl _ _).alloc (Nat.le_refl _) _⟩
  · have hv : mayB a b n = false := by simp [mayB, hz]
    have hz' : (sizeE a b == 0) = false := by simp [hz]
    have HV := Lib.hid hv
    clear hz hv
    go_enter Tryd.func13, Tryd.ntmps13
    go_wp2_with (go_at_call 29; refine (size_prog _ _ ha hb _).mono ?_; rintro e w' ⟨rfl, rfl⟩)
    go_ret
    exact ⟨ret_b HV.out.symm, (Below.refl _ _).alloc (Nat.le_refl _) _⟩
theorem may_ref (a b : Int) (A : Option Addr) (n cap : Nat) (ha : In64 a) (hb : In64 b) (hn : n ≤ cap) (hc : cap ≤ maxLen) (w : World) :
    Calls Tryd.prog 6 #[.agg #[.int .i64 a, .int .i64 b, .slice A n cap]] w fun e w' => e = .returned (.bool (mayB a b n)) ∧ Below w.heap.size w w' := by
  unfold maxLen at hc
  by_cases hz : sizeE a b = 0
  · obtain ⟨h1, h2, h3, h4, h5⟩ := size_ok hz
    have m1 := mul_bd (4 * a) b 1024 256 (by omega) (by omega) (by omega) h4
    obtain ⟨m10, m11⟩ := m1
    have hz' : (sizeE a b == 0) = true := by simp [hz]
    have hv : mayB a b n = ((n : Int) == 4 * a * b) := by
      simp only [mayB, hz, true_and]
      rw [Bool.eq_iff_iff]
      simp
    have HV := Lib.hid hv
    clear hz hv
    go_enter Tryd.func6, Tryd.ntmps6
    go_wp2_with (go_at_call 19; refine (size_ref _ _ ha hb _).mono ?_; rintro e w' ⟨rfl, rfl⟩)
    go_ret
    exact ⟨ret_b HV.out.symm, (Below.refl _ _).alloc (Nat.le_refl _) _⟩
  · have hv : mayB a b n = false := by simp [mayB, hz]
    have hz' : (sizeE a b == 0) = false := by simp [hz]
    have HV := Lib.hid hv
    clear hz hv
    go_enter Tryd.func6, Tryd.ntmps6
    go_wp2_with (go_at_call 19; refine (size_ref _ _ ha hb _).mono ?_; rintro e w' ⟨rfl, rfl⟩)
    go_ret
    exact ⟨ret_b HV.out.symm, (Below.refl _ _).alloc (Nat.le_refl _) _⟩
end Go.Proofs.YthgafdbdmemkhaaDoor

namespace Go.Proofs.YthgafdbdmemkhaaDoor
set_option maxRecDepth 100000
set_option linter.unusedVariables false
open Go.ChangeShapes Go.WideShapes Go.ChangeAt Go.RowKit

def upB (v b : Int) : Bool := decide ((b = 1 ∨ b = 2 ∨ b = 4 ∨ b = 8 ∨ b = 16) ∧ 0 ≤ v ∧ v < 2 ^ b.toNat)
def upV (v b : Int) : Int := if upB v b then v * (65535 / (2 ^ b.toNat - 1)) else 0
def maskB (v b : Int) : Bool := decide (1 ≤ b ∧ b ≤ 8 ∧ 0 ≤ v ∧ v < 2 ^ b.toNat)
def maskV (v b : Int) : Int := if maskB v b then (2 * v * 255 + (2 ^ b.toNat - 1)) / (2 * (2 ^ b.toNat - 1)) * 257 else 0
def eightB (s : Int) : Bool := decide (s % 257 = 0)
def eightV (s : Int) : Int := if eightB s then s / 257 else 0

theorem up9 (v b : Int) (hv : -9223372036854775808 ≤ v) (hv' : v ≤ 9223372036854775807) (w : World) :
    Calls Tryd.prog 71 #[.int .i64 v, .int .i64 b] w fun e w' => e = .returned (.tuple #[.int .u16 (upV v b), .bool (upB v b)]) ∧ w = w' := by
  have hb : b = 1 ∨ b = 2 ∨ b = 4 ∨ b = 8 ∨ b = 16 ∨ (b ≠ 1 ∧ b ≠ 2 ∧ b ≠ 4 ∧ b ≠ 8 ∧ b ≠ 16) := by omega
  rcases hb with rfl | rfl | rfl | rfl | rfl | ⟨h1, h2, h3, h4, h5⟩
  all_goals
    go_enter Tryd.func71, Tryd.ntmps71
    go_wp2
  all_goals go_ret2
  all_goals refine ⟨ret2_ib ?_ ?_, rfl⟩
  all_goals (simp [upV, upB]; try omega)
theorem mask11 (v b : Int) (hv : -9223372036854775808 ≤ v) (hv' : v ≤ 9223372036854775807) (w : World) :
    Calls Tryd.prog 74 #[.int .i64 v, .int .i64 b] w fun e w' => e = .returned (.tuple #[.int .u16 (maskV v b), .bool (maskB v b)]) ∧ w = w' := by
  have hb : b = 1 ∨ b = 2 ∨ b = 3 ∨ b = 4 ∨ b = 5 ∨ b = 6 ∨ b = 7 ∨ b = 8 ∨ b < 1 ∨ 8 < b := by omega
  rcases hb with rfl | rfl | rfl | rfl | rfl | rfl | rfl | rfl | h1 | h1
  all_goals
    go_enter Tryd.func74, Tryd.ntmps74
    go_wp2
  all_goals go_ret2
  all_goals refine ⟨ret2_ib ?_ ?_, rfl⟩
  all_goals (simp [maskV, maskB]; try omega)
set_option maxHeartbeats 400000 in
theorem mask12 (v b : Int) (hv : -9223372036854775808 ≤ v) (hv' : v ≤ 9223372036854775807) (w : World) :
    Calls Tryd.prog 38 #[.int .i64 v, .int .i64 b] w fun e w' => e = .returned (.tuple #[.int .u16 (maskV v b), .bool (maskB v b)]) ∧ w = w' := by
  have hb : b = 1 ∨ b = 2 ∨ b = 3 ∨ b = 4 ∨ b = 5 ∨ b = 6 ∨ b = 7 ∨ b = 8 ∨ b < 1 ∨ 8 < b := by omega
  rcases hb with rfl | rfl | rfl | rfl | rfl | rfl | rfl | rfl | h1 | h1
  all_goals
    go_enter Tryd.func38, Tryd.ntmps38
    go_wp2
  all_goals go_ret2
  all_goals refine ⟨ret2_ib ?_ ?_, rfl⟩
  all_goals (simp [maskV, maskB]; try omega)
theorem u16_quo (s : Int) (h0 : 0 ≤ s) (h1 : s ≤ 65535) : IntKind.u16.wrap (s.tdiv 257) = s / 257 := by
  rw [Int.tdiv_eq_ediv_of_nonneg h0]
  simp [IntKind.wrap, IntKind.signed, IntKind.bits]; omega
theorem eight13 (s : Int) (h0 : 0 ≤ s) (h1 : s ≤ 65535) (w : World) : Calls Tryd.prog 18 #[.int .u16 s] w fun e w' => e = .returned (.tuple #[.int .u8 (eightV s), .bool (eightB s)]) ∧ w = w' := by
  have hq := u16_quo s h0 h1
  go_enter Tryd.func18, Tryd.ntmps18
  go_wp2
  all_goals go_ret2
  all_goals refine ⟨ret2_ib ?_ ?_, rfl⟩
  all_goals (simp_all [eightV, eightB]; try omega)
end Go.Proofs.YthgafdbdmemkhaaDoor

namespace Go.Proofs.YthgafdbdmemkhaaDoor
set_option maxRecDepth 100000
set_option linter.unusedVariables false
open Go.ChangeShapes Go.WideShapes Go.ChangeAt Go.RowKit Go.Shelf
attribute [local go_sem] Oper.semAt_some

/-- What a round keeps: what lay below n₀, and the two boxes of the iterator. -/
def KpC (n₀ Bs Bn : Nat) (W W' : World) : Prop := Below n₀ W W' ∧ W'.heap[Bs]? = W.heap[Bs]? ∧ W'.heap[Bn]? = W.heap[Bn]?
theorem kpC_refl (n₀ Bs Bn : Nat) (W : World) : KpC n₀ Bs Bn W W := ⟨Below.refl _ _, rfl, rfl⟩
theorem kpC_trans {n₀ Bs Bn : Nat} {A B C : World} (h : KpC n₀ Bs Bn A B) (k : KpC n₀ Bs Bn B C) : KpC n₀ Bs Bn A C := ⟨h.1.trans k.1, k.2.1.trans h.2.1, k.2.2.trans h.2.2⟩

set_option maxRecDepth 100000 in
set_option maxHeartbeats 2000000 in
theorem chunk1_in (F : Fence) (n : Nat) (hf : F.fn 62) (hro : F.round = none) (hn : 1 ≤ n) (l Bs Bn n₀ b off len cap N : Nat) (hlen : len = 4 * N) (hcap : len ≤ cap) (hmax : cap ≤ maxLen) (J Jx : List (Fin N) → World → Prop)
    (hY : ∀ pre x W, J pre W → pre.length < N → YieldAt F (n - 1) Tryd.prog l #[.slice (some ⟨b, off + 4 * x.1, none⟩) 4 4] W fun e W' =>
      (e = .returned (.bool true) ∧ J (pre ++ [x]) W' ∧ KpC n₀ Bs Bn W W') ∨ (e = .returned (.bool false) ∧ Jx (pre ++ [x]) W'))
    (hJd : ∀ pre W, J pre W → J pre W.drew) (W : World) (hBs : W.cell? ⟨Bs, 0, none⟩ = some (.slice (some ⟨b, off, none⟩) len cap)) (hBn : W.cell? ⟨Bn, 0, none⟩ = some (.int .i64 4)) (h0 : J [] W) :
    CallsIn F n Tryd.prog 62 #[.func (.yield l) #[] #[], .pointer (some ⟨Bs, 0, none⟩), .pointer (some ⟨Bn, 0, none⟩)] W fun e W' => (∃ v, e = .returned v) ∧
      ((∃ ys : List (Fin N), ys.map (·.1) = List.range N ∧ J ys W') ∨ (∃ pre : List (Fin N), (∃ k, k ≤ N ∧ pre.map (·.1) = List.range k) ∧ Jx pre W')) := by
  unfold maxLen at hmax
  refine callsIn_of_wp Tryd.func62 rfl hf ?_ hro
  simp only [Tryd.ntmps62, List.size_toArray, List.length_cons, List.length_nil, Nat.reduceAdd, Nat.reduceSub, Array.replicate_succ, Array.replicate_zero, List.push_toArray, List.append_toArray, List.nil_append, List.cons_append]
  gi_wp2
  gi_loopw [4] (fun i wr => ∃ (k : Nat) (pre : List (Fin N)), k ≤ N ∧ pre.map (·.1) = List.range k ∧ i = .int .i64 (4 * (k : Int)) ∧ J pre wr ∧ KpC n₀ Bs Bn W wr)
    (fun i _ => 4 * N - (intOf i).toNat)
  case atStart => exact ⟨0, [], Nat.zero_le _, rfl, rfl, h0, kpC_refl _ _ _ _⟩
  case round =>
    obtain ⟨k, pre, hk, hpre, rfl, hJs, hK⟩ := hrel
    have hs1 : wr.cell? ⟨Bs, 0, none⟩ = some (.slice (some ⟨b, off, none⟩) len cap) := (World.cell?_of_block hK.2.1).trans hBs
    have hn1 : wr.cell? ⟨Bn, 0, none⟩ = some (.int .i64 4) := (World.cell?_of_block hK.2.2).trans hBn
    by_cases hlt : k < N
    · have hl1 : pre.length = k := by have := congrArg List.length hpre; simpa using this
      obtain ⟨fn, tmps, assign, body, hy, hR⟩ := hY pre ⟨k, hlt⟩ wr.drew (hJd _ _ hJs) (by omega)
      dsimp only at hy
      have hpre' : (pre ++ [(⟨k, hlt⟩ : Fin N)]).map (·.1) = List.range (k + 1) := by rw [List.map_append, hpre, List.range_succ]; rfl
      have hck : ¬cap = 4 * k := by omega
      have hlI : (4 : Int) * (k : Int) + 4 ≤ (len : Int) := by omega
      gi_wp2
      gi_region
      all_goals (try (exfalso; omega))
      all_goals gi_wp2
      all_goals (try (exfalso; omega))
      all_goals
        refine hR.mono ?_
        rintro e W3 (⟨rfl, hJ3, hk3⟩ | ⟨rfl, hJx3⟩)
        · have hK3 : KpC n₀ Bs Bn W W3 := kpC_trans hK ⟨((Below.refl _ _).drew).trans hk3.1, hk3.2.1, hk3.2.2⟩
          have hn3 : W3.cell? ⟨Bn, 0, none⟩ = some (.int .i64 4) := (World.cell?_of_block hK3.2.2).trans hBn
          gi_wp2
          go_roundw
          case rel => exact ⟨k + 1, pre ++ [⟨k, hlt⟩], by omega, hpre', by simp; omega, hJ3, hK3⟩
          case measure => simp [intOf]; omega
        · gi_wp2
          refine bodyPost_ret (results_none rfl _ _ _) rfl ?_
          exact ⟨⟨_, rfl⟩, .inr ⟨_, ⟨k + 1, by omega, hpre'⟩, hJx3⟩⟩
    · obtain rfl : k = N := by omega
      gi_wp2
      go_end0
      exact ⟨⟨_, rfl⟩, .inl ⟨_, hpre, hJs⟩⟩

theorem grown_drewC (w : World) (row : Option Nat) : w.grownBy w.drew row := ⟨rfl, rfl, rfl, Nat.le_refl _, fun _ _ _ => rfl⟩

/-- slices.Chunk's value, over a slice of 4 * N cells, by fours. -/
theorem chunk_stops (F : Fence) (n : Nat) (hf : F.fn 62) (hro : F.round = none) (hn : 1 ≤ n) (Bs Bn n₀ b off len cap N : Nat) (hlen : len = 4 * N) (hcap : len ≤ cap) (hmax : cap ≤ maxLen)
    (w : World) (hBs' : Bs < w.heap.size) (hBn' : Bn < w.heap.size) (hBs : w.cell? ⟨Bs, 0, none⟩ = some (.slice (some ⟨b, off, none⟩) len cap)) (hBn : w.cell? ⟨Bn, 0, none⟩ = some (.int .i64 4)) :
    SeqStopsK F n Tryd.prog 62 #[.pointer (some ⟨Bs, 0, none⟩), .pointer (some ⟨Bn, 0, none⟩)] (fun x : Fin N => #[Value.slice (some ⟨b, off + 4 * x.1, none⟩) 4 4]) (KpC n₀ Bs Bn)
      (fun ys => ys.map (·.1) = List.range N) (fun pre => ∃ k, k ≤ N ∧ pre.map (·.1) = List.range k) N w := fun l J Jx W hW hJ _ hY h0 =>
  chunk1_in F n hf hro hn l Bs Bn n₀ b off len cap N hlen hcap hmax J Jx hY (fun pre W1 h1 => hJ _ _ _ none h1 (grown_drewC _ _) (fun r e => by cases e)) W ((hW.cell (p := ⟨Bs, 0, none⟩) hBs').trans hBs) ((hW.cell (p := ⟨Bn, 0, none⟩) hBn').trans hBn) h0

end Go.Proofs.YthgafdbdmemkhaaDoor

namespace Go.Proofs.YthgafdbdmemkhaaDoor
set_option maxRecDepth 100000
set_option linter.unusedVariables false
open Go.ChangeShapes Go.WideShapes Go.ChangeAt Go.RowKit Go.Shelf
open Go.Maps (Keyed setOf setOf_snoc size_setOf addKey)
attribute [local go_sem] Oper.semAt_some

/-! ### The key: four samples -/
theorem laidOut : laidOutB Tryd.prog = true := by kernel_rfl
theorem row41 : (45 : TypeId) < Tryd.prog.types.size := of_decide_eq_true (by kernel_rfl)
theorem law41 : WideMaps.KeyLaw Tryd.prog 45 := deep_law_laid laidOut (m := 2) (by omega) row41 (by kernel_rfl) (by kernel_rfl)
theorem keyed41 : Keyed Tryd.prog 45 := Keyed.of_law law41
theorem cells41 : Tryd.prog.cellsOf 45 = 4 := by kernel_rfl
theorem cells38 : Tryd.prog.cellsOf 39 = 1 := by kernel_rfl
theorem ktype41 : Tryd.prog.keyType 45 = true := by kernel_rfl
theorem types_succ : ∃ m, Tryd.prog.types.size = m + 2 := ⟨Tryd.prog.types.size - 2, by kernel_rfl⟩
def u4 (c : Nat → Nat) (i : Nat) : List Lit := [.int .u16 (c (4 * i) : Nat), .int .u16 (c (4 * i + 1) : Nat), .int .u16 (c (4 * i + 2) : Nat), .int .u16 (c (4 * i + 3) : Nat)]
def px (c : Nat → Nat) (i : Nat) : Value := .agg #[.int .u16 (c (4 * i) : Nat), .int .u16 (c (4 * i + 1) : Nat), .int .u16 (c (4 * i + 2) : Nat), .int .u16 (c (4 * i + 3) : Nat)]
def kl (c : Nat → Nat) (i : Nat) : Lit := .string (keyBytes (u4 c i))
theorem wf16 {a : Nat} (h : a < 65536) : (Lit.int .u16 (a : Int)).wf = true := by
  have h1 : IntKind.u16.min = 0 := rfl
  have h2 : IntKind.u16.max = 65535 := rfl
  simp [Lit.wf, h1, h2]
  omega
theorem key_px (c : Nat → Nat) (hc : ∀ i, c i < 65536) (i : Nat) : keyOf Tryd.prog 45 (px c i) = some (kl c i) := by
  have hf : (px c i).formed Tryd.prog 45 = true := by simp [px, Value.formed, Tryd.underlying45, cells41]
  obtain ⟨m, hm⟩ := types_succ
  have h1 : ∀ j, Tryd.prog.keyLits (m + 2) 39 [.int .u16 (c j : Nat)] = some [.int .u16 (c j : Nat)] := fun j => by
    simp [Program.keyLits, Tryd.underlying39, wf16 (hc j)]
  unfold keyOf
  rw [Tryd.underlying45]
  simp only [ktype41, hf, hm, Bool.and_self, if_true]
  rw [Program.keyLits.eq_def]
  simp only [Tryd.underlying45]
  simp [px, Value.cells, cells41, cells38, List.range_succ, h1, kl, u4]

/-! ### The count -/
def cnt (l : List Lit) : Nat := (l.foldl addKey []).length
theorem addKey_le (acc : List Lit) (x : Lit) : acc.length ≤ (addKey acc x).length ∧ (addKey acc x).length ≤ acc.length + 1 := by
  unfold addKey; split <;> simp
theorem fold_le (l : List Lit) : ∀ acc : List Lit, acc.length ≤ (l.foldl addKey acc).length ∧ (l.foldl addKey acc).length ≤ acc.length + l.length := by
  induction l with
  | nil => intro acc; simp
  | cons x l ih =>
    intro acc
    have h1 := ih (addKey acc x)
    have h2 := addKey_le acc x
    simp only [List.foldl_cons, List.length_cons]
    omega
theorem cnt_le (l : List Lit) : cnt l ≤ l.length := by have := (fold_le l []).2; simpa [cnt] using this
theorem cnt_mono (l l' : List Lit) : cnt l ≤ cnt (l ++ l') := by
  unfold cnt
  rw [List.foldl_append]
  exact (fold_le l' _).1
def kls (c : Nat → Nat) (N : Nat) : List Lit := (List.range N).map (kl c)
theorem cnt_pre (c : Nat → Nat) {k N : Nat} (h : k ≤ N) : cnt (kls c k) ≤ cnt (kls c N) := by
  obtain ⟨d, rfl⟩ := Nat.le.dest h
  unfold kls
  rw [List.range_add, List.map_append]
  exact cnt_mono _ _
/-- raster.Colours: the count, and whether it is within the limit. -/
def colN (c : Nat → Nat) (N : Nat) (most : Int) : Int := if most < (cnt (kls c N) : Nat) then 0 else (cnt (kls c N) : Nat)
def colB (c : Nat → Nat) (N : Nat) (most : Int) : Bool := decide ((cnt (kls c N) : Int) ≤ most)

theorem chunk_in (F : Fence) (n : Nat) (hf : F.fn 48) (hro : F.round = none) (a : Option Addr) (len cap : Nat) (w : World) :
    CallsIn F n Tryd.prog 48 #[.slice a len cap, .int .i64 4] w fun e w' => e = .returned (.func (.func 62) #[] #[.pointer (some ⟨w.heap.size, 0, none⟩), .pointer (some ⟨w.heap.size + 1, 0, none⟩)])
      ∧ w' = (w.alloc (.cells #[.slice a len cap] 22)).alloc (.cells #[.int .i64 4] 3) := by
  refine callsIn_of_wp Tryd.func48 rfl hf ?_ hro
  simp only [Tryd.ntmps48, List.size_toArray, List.length_cons, List.length_nil, Nat.reduceAdd, Nat.reduceSub, Array.replicate_succ, Array.replicate_zero, List.push_toArray, List.append_toArray, List.nil_append, List.cons_append]
  gi_wp2
  go_ret
  exact ⟨by simp, rfl⟩

theorem hp_alloc {W : World} {B : Nat} {o : Obj} (o' : Obj) (h : W.heap[B]? = some o) : (W.alloc o').heap[B]? = some o := (Below.heap_alloc W o' B (Array.getElem?_eq_some_iff.1 h).1).trans h
theorem hp_below {n B : Nat} {W W' : World} {o : Obj} (h : W.heap[B]? = some o) (hb : Below n W W') (hlt : B < n) : W'.heap[B]? = some o := (hb.block B hlt).trans h
theorem hp_cell {W : World} {B j : Nat} {cs : Array Value} {t : TypeId} {v : Value} (h : W.heap[B]? = some (.cells cs t (0, 0))) (hv : cs[j]? = some v) : W.cell? ⟨B, j, none⟩ = some v := by
  simp [World.cell?, h, hv]
def cellsO (cs : Array Value) (t : TypeId) : Obj := .cells cs t
theorem results_cell2 {fn : Func} {p q : Tmp} {tp tq : TypeId} (h : fn.results = #[.cell p tp, .cell q tq]) (tmps : Array Value) (P : Program) (w : World) :
    (results fn tmps).run P w =
      ((asAddr (tmps.getD p undef)).run P w).andThen fun a w₁ => ((loadVar tp a).run P w₁).andThen fun v w₂ => ((asAddr (tmps.getD q undef)).run P w₂).andThen fun b w₃ => ((loadVar tq b).run P w₃).andThen fun u w₄ => .ok (.tuple #[v, u]) w₄ := by
  simp only [results, h]
  simp [Sem.run_bind, Result.andThen]
def R54 : Value → Option (DataW Unit × List MemPlace) := fun _ => some (.nil, [])
/-- The world of raster.Colours's four boxes. -/
theorem four_boxes (w : World) (cs : Array Value) (v1 v2 v3 : Value) (t0 t1 t2 t3 : TypeId) :
    let W := (((w.alloc (.cells cs t0)).alloc (.cells #[v1] t1)).alloc (.cells #[v2] t2)).alloc (.cells #[v3] t3)
    W.heap.size = w.heap.size + 4 ∧ W.heap[w.heap.size]? = some (.cells cs t0 (0, 0)) ∧ Boxed W (w.heap.size + 1) t1 v1 ∧ Boxed W (w.heap.size + 1 + 1) t2 v2 ∧ Boxed W (w.heap.size + 1 + 1 + 1) t3 v3 := by
  intro W
  have h1 := Boxed.new (w.alloc (.cells cs t0)) t1 v1
  have h2 := Boxed.new ((w.alloc (.cells cs t0)).alloc (.cells #[v1] t1)) t2 v2
  have h3 := Boxed.new (((w.alloc (.cells cs t0)).alloc (.cells #[v1] t1)).alloc (.cells #[v2] t2)) t3 v3
  simp only [World.size_alloc] at h1 h2 h3
  exact ⟨by simp [W, World.size_alloc], hp_alloc _ (hp_alloc _ (hp_alloc _ (World.alloc_heap_new w _))), (h1.alloc _).alloc _, h2.alloc _, h3⟩

theorem kpC_b {n₀ Bs Bn n : Nat} (h0 : n₀ ≤ n) (h1 : Bs < n) (h2 : Bn < n) (W : World) (l : Nat) (o o' : Obj) (hl : n ≤ l) (h : W.heap[l]? = some o) (hc : o.isCells = false) (hw : o.isWalk = false) : KpC n₀ Bs Bn W (W.putObj l o') := by
  have g : ∀ j, j < n → (W.putObj l o').heap[j]? = W.heap[j]? := fun j hj => by
    unfold World.putObj
    simp [Array.getElem?_setIfInBounds]
    omega
  exact ⟨⟨rfl, rfl, rfl, by simp [World.putObj], fun k hk => g k (by omega)⟩, g _ h1, g _ h2⟩
set_option maxRecDepth 100000 in
set_option maxHeartbeats 2000000 in
theorem col_may (a b : Int) (bk off cap : Nat) (c : Nat → Nat) (hc : ∀ i, c i < 65536) (N : Nat) (most : Int) (ha : In64 a) (hb : In64 b) (hm : mayB a b (4 * N) = true) (hN1 : 1 ≤ N) (hN2 : N ≤ 16384) (hcap : 4 * N ≤ cap) (hmax : cap ≤ maxLen)
    (w : World) (hbk : bk < w.heap.size) (hcells : ∀ j, j < 4 * N → w.cell? ⟨bk, off + j, none⟩ = some (.int .u16 (c j : Nat))) :
    Calls Tryd.prog 31 #[.agg #[.int .i64 a, .int .i64 b, .slice (some ⟨bk, off, none⟩) (4 * N) cap], .int .i64 most] w fun e w' => e = .returned (.tuple #[.int .i64 (colN c N most), .bool (colB c N most)]) ∧ Below w.heap.size w w' := by
  refine (callsIn_wide (n := 6)).1 ?_
  have hmm := @run_makeMap Tryd.prog
  refine callsIn_of_wp_marks Tryd.func31 rfl trivial ?_ rfl
  simp only [Tryd.ntmps31, List.size_toArray, List.length_cons, List.length_nil, Nat.reduceAdd, Nat.reduceSub, Array.replicate_succ, Array.replicate_zero, List.push_toArray, List.append_toArray, List.nil_append, List.cons_append]
  gi_wp2
  refine ⟨trivial, ?_⟩
  refine (callsIn_wide.2 (may_prog a b _ (4 * N) cap ha hb hcap hmax _)).mono ?_
  rintro e w2 ⟨rfl, hB2⟩
  rw [hm]
  obtain ⟨q0, q1, q2, q3, q4⟩ := four_boxes w #[.int .i64 a, .int .i64 b, .slice (some ⟨bk, off, none⟩) (4 * N) cap] (.int .i64 most) (.int .i64 0) (.bool false) 24 3 3 4
  have hS := hB2.size
  rw [q0] at hB2 hS
  have k0 := hp_cell (j := 2) (hp_alloc (.cells #[.map (some w2.heap.size)] 86) (hp_alloc (.map #[] 0) (hp_below q1 hB2 (by omega)))) rfl
  have b1 : Boxed w2 _ _ _ := hp_below q2 hB2 (by omega)
  have b2 : Boxed w2 _ _ _ := hp_below q3 hB2 (by omega)
  have b3 : Boxed w2 _ _ _ := hp_below q4 hB2 (by omega)
  have hBw : Below w.heap.size w w2 := (((((Below.refl _ w).alloc (Nat.le_refl _) _).alloc (by simp) _).alloc (by simp; omega) _).alloc (by simp; omega) _).trans (hB2.mono (by omega))
  have hm0 := World.ownsMap_made w2 Tryd.prog 45 R54
  clear q0 q1 q2 q3 q4 hB2
  gi_wp2
  refine ⟨trivial, ?_⟩
  refine (chunk_in Fence.wide _ trivial rfl _ _ _ _).mono ?_
  rintro e w3 ⟨rfl, rfl⟩
  gi_wp2
  have hb0 := Boxed.new (w2.alloc (.map #[] 0)) 86 (.map (some w2.heap.size))
  have hb4 := Boxed.new ((w2.alloc (.map #[] 0)).alloc (.cells #[.map (some w2.heap.size)] 86)) 22 (.slice (some ⟨bk, off, none⟩) (4 * N) cap)
  have hb5 := Boxed.new (((w2.alloc (.map #[] 0)).alloc (.cells #[.map (some w2.heap.size)] 86)).alloc (.cells #[.slice (some ⟨bk, off, none⟩) (4 * N) cap] 22)) 3 (.int .i64 4)
  simp only [World.size_alloc] at hb0 hb4 hb5
  have hI0 := (((hb0.alloc (.cells #[.slice (some ⟨bk, off, none⟩) (4 * N) cap] 22)).alloc (.cells #[.int .i64 4] 3)))
  have hI1 := (((hm0.alloc (.cells #[.map (some w2.heap.size)] 86)).alloc (.cells #[.slice (some ⟨bk, off, none⟩) (4 * N) cap] 22)).alloc (.cells #[.int .i64 4] 3))
  have hI2 := hb4.alloc (.cells #[.int .i64 4] 3)
  have hI3 : Below w2.heap.size w2 ((((w2.alloc (Obj.map #[] 0)).alloc (Obj.cells #[.map (some w2.heap.size)] 86)).alloc (Obj.cells #[.slice (some ⟨bk, off, none⟩) (4 * N) cap] 22)).alloc (Obj.cells #[.int .i64 4] 3)) :=
    ((((Below.refl _ w2).alloc (Nat.le_refl _) _).alloc (by simp) _).alloc (by simp; omega) _).alloc (by simp; omega) _
  have hI4 : ((((w2.alloc (Obj.map #[] 0)).alloc (Obj.cells #[.map (some w2.heap.size)] 86)).alloc (Obj.cells #[.slice (some ⟨bk, off, none⟩) (4 * N) cap] 22)).alloc (Obj.cells #[.int .i64 4] 3)).heap.size = w2.heap.size + 4 := by simp [World.size_alloc]
  clear hb0 hb4 hm0 k0
  generalize hmS : w2.heap.size = m at *
  generalize ((((w2.alloc (Obj.map #[] 0)).alloc (Obj.cells #[.map (some m)] 86)).alloc (Obj.cells #[.slice (some ⟨bk, off, none⟩) (4 * N) cap] 22)).alloc (Obj.cells #[.int .i64 4] 3)) = w0 at *
  have hml : 4 * N ≤ maxLen := Nat.le_trans hcap hmax
  have hbw : ∀ W, Below m w2 W → Below w.heap.size w W := fun W h => hBw.trans (h.mono (by omega))
  refine wpIn_rangeFunc_ownG rfl (by omega) (gf := 62) (lb := #[.pointer (some ⟨m + 1 + 1, 0, none⟩), .pointer (some ⟨m + 1 + 1 + 1, 0, none⟩)]) rfl trivial (enters_of Tryd.func62 (by kernel_rfl) rfl)
    (chunk_stops Fence.wide _ trivial rfl (by omega) (m + 1 + 1) (m + 1 + 1 + 1) m bk off (4 * N) cap N rfl hcap hmax w0 (by omega) (by omega) hI2.cell hb5.cell) kpC_trans (kpC_b (n := w0.heap.size) (by omega) (by omega) (by omega)) (Below.refl _ _) (fun _ => rfl)
    (fun pre W => ((Boxed W (m + 1) 86 (.map (some m)) ∧ W.ownsMap Tryd.prog 45 R54 m pre.length (setOf .nil (pre.map (fun x => kl c x.1))) ∧ m + 4 ≤ W.heap.size) ∧ Below m w2 W) ∧ (pre ≠ [] → (cnt (pre.map (fun x => kl c x.1)) : Int) ≤ most))
    (fun cd pre W => (((Boxed W (w.heap.size + 1 + 1) 3 (.int .i64 0) ∧ Boxed W (w.heap.size + 1 + 1 + 1) 4 (.bool false)) ∧ Below w.heap.size w W) ∧ cd = .ret ∧ most < (cnt (pre.map (fun x => kl c x.1)) : Int)))
    (OwnFrom.and (OwnFrom.and (fun s A B row hs hg hr => ⟨hs.1.kept hg (fun e => by have := (hr _ e.symm).1; omega), hs.2.1.kept hg (fun e => by have := (hr _ e.symm).1; omega), Nat.le_trans hs.2.2 hg.size⟩) (ownFrom_below (by omega) (by omega))) (fun _ _ _ _ h _ _ => h))
    (fun cd => OwnFrom.and (OwnFrom.and (fun s A B row hs hg hr => ⟨hs.1.kept hg (fun e => by have := (hr _ e.symm).1; omega), hs.2.kept hg (fun e => by have := (hr _ e.symm).1; omega)⟩) (ownFrom_below (by omega) (by omega))) (fun _ _ _ _ h _ _ => h))
    ⟨⟨⟨hI0, hI1, by omega⟩, hI3⟩, fun h => absurd rfl h⟩
    (fun x => { tmps := #[.agg #[.int .i64 a, .int .i64 b, .slice (some ⟨bk, off, none⟩) (4 * N) cap], .int .i64 most, .pointer (some ⟨w.heap.size, 0, none⟩), .pointer (some ⟨w.heap.size + 1, 0, none⟩), .pointer (some ⟨w.heap.size + 1 + 1, 0, none⟩), .pointer (some ⟨w.heap.size + 1 + 1 + 1, 0, none⟩), .pointer (some ⟨m + 1, 0, none⟩),
      .slice (some ⟨bk, off + 4 * x.1, none⟩) 4 4, .agg #[.int .i64 a, .int .i64 b, .slice (some ⟨bk, off, none⟩) (4 * N) cap], .bool true, .bool false, .map (some m), .pointer (some ⟨w.heap.size, 2, none⟩), .slice (some ⟨bk, off, none⟩) (4 * N) cap,
      .func (.func 62) #[] #[.pointer (some ⟨m + 1 + 1, 0, none⟩), .pointer (some ⟨m + 1 + 1 + 1, 0, none⟩)], .slice (some ⟨bk, off + 4 * x.1, none⟩) 4 4, undef, undef, undef, undef, undef, undef, undef, undef, undef, undef, undef], defers := [] }) ?assign ?body ?done ?stop
  case assign =>
    intro l x W K hK
    gi_wp2
    exact hK
  case body =>
    rintro l pre x W ⟨⟨⟨hbx, hown, hWs⟩, hB⟩, hlim⟩ hlt
    have hBB := hbw W hB
    have hmW : m ≤ W.heap.size := by have := hB.size; omega
    have c0 : W.cell? ⟨bk, off + 4 * x.1, none⟩ = some (.int .u16 (c (4 * x.1) : Nat)) := ((hBB.cell (p := ⟨bk, off + 4 * x.1, none⟩) hbk).trans (hcells (4 * x.1) (by omega)))
    have c1 : W.cell? ⟨bk, off + 4 * x.1 + 1, none⟩ = some (.int .u16 (c (4 * x.1 + 1) : Nat)) := ((hBB.cell (p := ⟨bk, off + 4 * x.1 + 1, none⟩) hbk).trans (by have := hcells (4 * x.1 + 1) (by omega); rwa [← Nat.add_assoc] at this))
    have c2 : W.cell? ⟨bk, off + 4 * x.1 + 2, none⟩ = some (.int .u16 (c (4 * x.1 + 2) : Nat)) := ((hBB.cell (p := ⟨bk, off + 4 * x.1 + 2, none⟩) hbk).trans (by have := hcells (4 * x.1 + 2) (by omega); rwa [← Nat.add_assoc] at this))
    have c3 : W.cell? ⟨bk, off + 4 * x.1 + 3, none⟩ = some (.int .u16 (c (4 * x.1 + 3) : Nat)) := ((hBB.cell (p := ⟨bk, off + 4 * x.1 + 3, none⟩) hbk).trans (by have := hcells (4 * x.1 + 3) (by omega); rwa [← Nat.add_assoc] at this))
    have hbc := hbx.cell
    have hmx : Tryd.prog.follows .mixedOrders = true := by kernel_rfl
    have hat : ∀ W, (Instr.arrayAt 45 (.slice (some ⟨bk, off + 4 * x.1, none⟩) 4 4)).run Tryd.prog W = .ok (.pointer (some ⟨bk, off + 4 * x.1, none⟩)) W := fun W => by kernel_rfl
    gi_wp2
    obtain ⟨w1, hrun, hown1, hgrow1⟩ := World.ownsMap.update (w := W.drew) (val := .agg #[]) hown.drew keyed41 Tryd.underlying86 (by omega : pre.length < maxLen) (key_px c hc x.1) rfl
    simp only [px] at hrun
    have e1 : DataW.put (setOf (H := Unit) .nil (pre.map (fun x => kl c x.1))) (kl c x.1) .nil = setOf .nil ((pre ++ [x]).map (fun x => kl c x.1)) := by rw [List.map_append]; exact (setOf_snoc _ _ _).symm
    rw [e1] at hown1
    have hsz : Maps.size (setOf (H := Unit) .nil ((pre ++ [x]).map (fun x => kl c x.1))) = cnt ((pre ++ [x]).map (fun x => kl c x.1)) := size_setOf _ _ (fun y hy => by
      obtain ⟨z, _, rfl⟩ := List.mem_map.1 hy
      exact keyed41.key (key_px c hc z.1))
    have hzl : cnt ((pre ++ [x]).map (fun x => kl c x.1)) ≤ N := Nat.le_trans (cnt_le _) (by simp; omega)
    generalize hz : cnt ((pre ++ [x]).map (fun x => kl c x.1)) = z at *
    have hbx1 : Boxed w1 (m + 1) 86 (.map (some m)) := Boxed.kept (W := W.drew) hbx hgrow1 (fun e => by injection e; omega)
    have hKp : Below m W w1 := ((Below.refl _ W).drew).grown hgrow1 hmW (fun k e => by cases e; exact Nat.le_refl _)
    have hB1 := hB.trans hKp
    have p1 : Boxed w1 _ _ _ := hp_below b1 hB1 (by omega)
    have p2 : Boxed w1 _ _ _ := hp_below b2 hB1 (by omega)
    have p3 : Boxed w1 _ _ _ := hp_below b3 hB1 (by omega)
    have p1c := p1.cell
    have p2c := p2.cell
    have p2f := p2.frozen
    have p3c := p3.cell
    have p3f := p3.frozen
    have hbc1 := hbx1.cell
    have hKF : KeepsFrom w0.heap.size W w1 := (KeepsOthers.drew W).from _ |>.trans (KeepsFrom.of_grownBy hgrow1 (fun j e => by cases e; omega))
    have hKF' := hKF
    rw [hI4] at hKF'
    by_cases hmost : most < (z : Int)
    · gi_region
      all_goals gi_wp2_with (gi_at_len; refine wpListIn_len_own _ rfl _ 86 rfl 45 90 Tryd.underlying86 R54 m _ _ rfl hown1 ?_; rw [hsz])
      all_goals exact ⟨hKF.trans (((KeepsOthers.setCell _ _ _).trans (KeepsOthers.setCell _ _ _)).from _), ⟨⟨(p2.set _).other (by omega) _, (p3.other (by omega) _).set _⟩, ((hbw _ hB1).setCell (p := ⟨w.heap.size + 1 + 1, 0, none⟩) (by simp; omega) _).setCell (p := ⟨w.heap.size + 1 + 1 + 1, 0, none⟩) (by simp; omega) _⟩, rfl, by rw [hz]; exact hmost⟩
    · gi_region
      all_goals gi_wp2_with (gi_at_len; refine wpListIn_len_own _ rfl _ 86 rfl 45 90 Tryd.underlying86 R54 m _ _ rfl hown1 ?_; rw [hsz])
      all_goals exact ⟨hKF', ⟨hKp, hgrow1.block _ (show m + 1 + 1 < W.heap.size by omega) (fun e => by injection e; omega), hgrow1.block _ (show m + 1 + 1 + 1 < W.heap.size by omega) (fun e => by injection e; omega)⟩, ⟨⟨hbx1, by rw [List.length_append]; exact hown1, Nat.le_trans hWs hgrow1.size⟩, hB1⟩, fun _ => by rw [hz]; omega⟩
  case done =>
    rintro D ys W hD hys ⟨⟨⟨hbx, hown, hWs⟩, hB⟩, hlim⟩ hK
    have hne : ys ≠ [] := fun e => by rw [e] at hys; have := congrArg List.length hys; simp at this; omega
    have hyk : ys.map (fun x => kl c x.1) = kls c N := by unfold kls; rw [← hys, List.map_map]; rfl
    have hlm := hlim hne
    rw [hyk] at hown hlm
    have hsz : Maps.size (setOf (H := Unit) .nil (kls c N)) = cnt (kls c N) := size_setOf _ _ (fun y hy => by
      obtain ⟨z, _, rfl⟩ := List.mem_map.1 hy
      exact keyed41.key (key_px c hc z))
    have hzl : cnt (kls c N) ≤ N := Nat.le_trans (cnt_le _) (by simp [kls])
    have hcN : colN c N most = (cnt (kls c N) : Nat) := by unfold colN; rw [if_neg (by omega)]
    have hcB : colB c N most = true := by unfold colB; simpa using hlm
    generalize cnt (kls c N) = z at *
    have p2 : Boxed W _ _ _ := hp_below b2 hB (by omega)
    have p3 : Boxed W _ _ _ := hp_below b3 hB (by omega)
    have p2c := p2.cell
    have p2f := p2.frozen
    have p3c := p3.cell
    have p3f := p3.frozen
    have hbc1 := hbx.cell
    dsimp only
    gi_wp2_with (gi_at_len; refine wpListIn_len_own _ rfl _ 86 rfl 45 90 Tryd.underlying86 R54 m _ _ rfl hown ?_; rw [hsz])
    have hK2 := ((KeepsOthers.setCell W ⟨w.heap.size + 1 + 1, 0, none⟩ (.int .i64 z)).trans (KeepsOthers.setCell _ ⟨w.heap.size + 1 + 1 + 1, 0, none⟩ (.bool true))).same D _ hK rfl
    have s2 := ((p2.set (.int .i64 z)).other (B' := w.heap.size + 1 + 1 + 1) (by omega) (.bool true)).kept (grownBy_putObj' _ D (.deferred none)) (fun e => by injection e; omega)
    have s3 := ((p3.other (B' := w.heap.size + 1 + 1) (by omega) (.int .i64 z)).set (.bool true)).kept (grownBy_putObj' _ D (.deferred none)) (fun e => by injection e; omega)
    have s2c := s2.cell
    have s3c := s3.cell
    refine ⟨by simp, .inl ⟨_, _, rfl, run_takeDeferred hK2, ?_⟩⟩
    refine ⟨.tuple #[.int .i64 z, .bool true], ?_, ?_⟩
    · rw [results_cell2 rfl]
      go_simp
    · rw [hcN, hcB]
      exact ⟨rfl, (((hbw _ hB).setCell (p := ⟨w.heap.size + 1 + 1, 0, none⟩) (by simp; omega) _).setCell (p := ⟨w.heap.size + 1 + 1 + 1, 0, none⟩) (by simp; omega) _).trans (belowK_b (w := w0) (by omega) _ D _ _ (by omega) hK2 rfl rfl)⟩
  case stop =>
    rintro D cd pre W hD ⟨k, hk, hpre⟩ ⟨⟨⟨r2, r3⟩, hB⟩, rfl, hmo⟩ hK
    have hpk : pre.map (fun x => kl c x.1) = kls c k := by unfold kls; rw [← hpre, List.map_map]; rfl
    rw [hpk] at hmo
    have hle := cnt_pre c hk
    have hcN : colN c N most = 0 := by unfold colN; rw [if_pos (by omega)]
    have hcB : colB c N most = false := by unfold colB; simp; omega
    have r2c := r2.cell
    have r3c := r3.cell
    dsimp only
    gi_wp2
    have s2 := r2.kept (grownBy_putObj' _ D (.deferred none)) (fun e => by injection e; omega)
    have s3 := r3.kept (grownBy_putObj' _ D (.deferred none)) (fun e => by injection e; omega)
    have s2c := s2.cell
    have s3c := s3.cell
    refine ⟨by simp, .inl ⟨_, _, rfl, run_takeDeferred hK, ?_⟩⟩
    refine ⟨.tuple #[.int .i64 0, .bool false], ?_, ?_⟩
    · rw [results_cell2 rfl]
      go_simp
    · rw [hcN, hcB]
      exact ⟨rfl, hB.trans (belowK_b (w := w0) (by omega) _ D _ _ (by omega) hK rfl rfl)⟩
end Go.Proofs.YthgafdbdmemkhaaDoor

namespace Go.Proofs.YthgafdbdmemkhaaDoor
set_option maxRecDepth 100000
set_option linter.unusedVariables false
open Go.ChangeShapes Go.WideShapes Go.ChangeAt Go.RowKit

theorem info16 : (Tryd.prog.info? 39).map (fun i => (i.zero, i.size, i.bytes)) = some (some (.int .u16 0), 1, 2) := by kernel_rfl
theorem zeros_get (n j : Nat) (hj : j < n) : (madeCells #[.int .u16 0] n).toList[j]? = some (.int .u16 0) := by
  simp [madeCells, hj, Nat.mod_one]
def zeros (n : Nat) : List Value := (madeCells #[.int .u16 0] n).toList
theorem hp_new0 (w : World) (o : Obj) : (w.alloc o).heap[w.heap.size]? = some o := (MapKept.heap_alloc w o).1
theorem grown_set (w : World) (b i : Nat) (v : Value) : w.grownBy (w.setCell ⟨b, i, none⟩ v) (some b) :=
  ⟨rfl, rfl, rfl, by simp [World.setCell], fun k _ hk => Below.heap_setCell w _ v k (fun e => hk (by rw [e]))⟩
def newPost (a b : Int) (w : World) (e : Ending) (w' : World) : Prop :=
  (sizeE a b = 0 ∧ ∃ v, e = .returned (.tuple #[.agg #[.int .i64 a, .int .i64 b, v], .int .i64 0]) ∧ w'.ownsRow (w.heap.size + 1) 39 1 v (4 * a * b).toNat (zeros (4 * a * b).toNat)) ∨
  (sizeE a b ≠ 0 ∧ e = .returned (.tuple #[.agg #[.int .i64 0, .int .i64 0, .slice none 0 0], .int .i64 (sizeE a b)]))

set_option maxRecDepth 100000 in
set_option maxHeartbeats 1000000 in
theorem new_prog (a b : Int) (ha : In64 a) (hb : In64 b) (w : World) :
    Calls Tryd.prog 53 #[.int .i64 a, .int .i64 b] w fun e w' => Below w.heap.size w w' ∧ newPost a b w e w' := by
  by_cases hz : sizeE a b = 0
  · obtain ⟨h1, h2, h3, h4, h5⟩ := size_ok hz
    obtain ⟨m10, m11⟩ := mul_bd (4 * a) b 1024 256 (by omega) (by omega) (by omega) h4
    obtain ⟨m, hm⟩ : ∃ m : Nat, 4 * a * b = (m : Int) := ⟨(4 * a * b).toNat, by omega⟩
    have hmt : (4 * a * b).toNat = m := by omega
    have hm1 : m ≤ 262144 := by omega
    have hz' : (sizeE a b == 0) = true := by simp [hz]
    obtain ⟨i0, hi, hz0, hz1, hz2⟩ := info_parts info16
    have hw1 : wrap64 (4 * a) = 4 * a := IntWalk.wrap64_in _ (by omega)
    have hw2 : wrap64 (4 * a * b) = (m : Int) := (IntWalk.wrap64_in _ (by omega)).trans hm
    have HZ := Lib.hid hz
    have HMT := Lib.hid hmt
    go_enter Tryd.func53, Tryd.ntmps53
    go_wp2_with fail
    refine (size_prog _ _ ha hb _).mono ?_
    rintro e w1 ⟨rfl, rfl⟩
    rw [hz]
    go_wp2_with (at_make; refine wpList_make_full _ rfl _ _ 22 rfl (w.heap.size + 1) 39 i0 _ 1 Tryd.underlying22 hi hz0 hz1 _ _ _ _ m rfl rfl rfl rfl (by rw [hz2]; omega) (by unfold maxLen; omega) (by simp) ?_)
    intro w2 hown2 hgrow2
    have hbx : w2.heap[w.heap.size]? = some (.cells #[.int .i64 0, .int .i64 0, .slice none 0 0] 24 (0, 0)) := (hgrow2.block _ (by simp) (by simp)).trans (hp_new0 w _)
    have k0 : w2.cell? ⟨w.heap.size, 0, none⟩ = some (.int .i64 0) := by simp [World.cell?, hbx]
    have k1 : w2.cell? ⟨w.heap.size, 1, none⟩ = some (.int .i64 0) := by simp [World.cell?, hbx]
    have k2 : w2.cell? ⟨w.heap.size, 2, none⟩ = some (.slice none 0 0) := by simp [World.cell?, hbx]
    have f0 : ∀ j, w2.frozen? ⟨w.heap.size, j, none⟩ = false := fun j => by simp [World.frozen?, hbx]
    go_wp2
    refine bodyPost_ret (v := .tuple #[.agg #[.int .i64 a, .int .i64 b, .slice (some ⟨w.heap.size + 1, 0, none⟩) m m], .int .i64 0]) (by rw [results_cell_tmp rfl]; go_simp) rfl ?_
    refine ⟨((((((Below.refl _ w).alloc (Nat.le_refl _) _).grown hgrow2 (by simp) (fun k e => by cases e)).setCell (p := ⟨w.heap.size, 0, none⟩) (Nat.le_refl _) _).setCell (p := ⟨w.heap.size, 1, none⟩) (Nat.le_refl _) _).setCell (p := ⟨w.heap.size, 2, none⟩) (Nat.le_refl _) _), .inl ⟨HZ.out, _, rfl, ?_⟩⟩
    rw [HMT.out]
    exact ((hown2.kept (grown_set _ _ 0 _) (.inr (by simp [Value.ownBlock]))).kept (grown_set _ _ 1 _) (.inr (by simp [Value.ownBlock]))).kept (grown_set _ _ 2 _) (.inr (by simp [Value.ownBlock]))
  · have hz' : (sizeE a b == 0) = false := by simp [hz]
    go_enter Tryd.func53, Tryd.ntmps53
    go_wp2_with fail
    refine (size_prog _ _ ha hb _).mono ?_
    rintro e w1 ⟨rfl, rfl⟩
    go_wp2
    refine bodyPost_ret (v := .tuple #[.agg #[.int .i64 0, .int .i64 0, .slice none 0 0], .int .i64 (sizeE a b)]) (by rw [results_cell_tmp rfl]; go_simp) rfl ?_
    exact ⟨(Below.refl _ _).alloc (Nat.le_refl _) _, .inr ⟨hz, rfl⟩⟩

set_option maxRecDepth 100000 in
set_option maxHeartbeats 1000000 in
theorem new_ref (a b : Int) (ha : In64 a) (hb : In64 b) (w : World) :
    Calls Tryd.prog 12 #[.int .i64 a, .int .i64 b] w fun e w' => Below w.heap.size w w' ∧ newPost a b w e w' := by
  by_cases hz : sizeE a b = 0
  · obtain ⟨h1, h2, h3, h4, h5⟩ := size_ok hz
    obtain ⟨m10, m11⟩ := mul_bd (4 * a) b 1024 256 (by omega) (by omega) (by omega) h4
    obtain ⟨m, hm⟩ : ∃ m : Nat, 4 * a * b = (m : Int) := ⟨(4 * a * b).toNat, by omega⟩
    have hmt : (4 * a * b).toNat = m := by omega
    have hm1 : m ≤ 262144 := by omega
    have hz' : (sizeE a b == 0) = true := by simp [hz]
    obtain ⟨i0, hi, hz0, hz1, hz2⟩ := info_parts info16
    have hw1 : wrap64 (4 * a) = 4 * a := IntWalk.wrap64_in _ (by omega)
    have hw2 : wrap64 (4 * a * b) = (m : Int) := (IntWalk.wrap64_in _ (by omega)).trans hm
    have HZ := Lib.hid hz
    have HMT := Lib.hid hmt
    go_enter Tryd.func12, Tryd.ntmps12
    go_wp2_with fail
    refine (size_ref _ _ ha hb _).mono ?_
    rintro e w1 ⟨rfl, rfl⟩
    rw [hz]
    go_wp2_with (at_make; refine wpList_make_full _ rfl _ _ 22 rfl (w.heap.size + 1) 39 i0 _ 1 Tryd.underlying22 hi hz0 hz1 _ _ _ _ m rfl rfl rfl rfl (by rw [hz2]; omega) (by unfold maxLen; omega) (by simp) ?_)
    intro w2 hown2 hgrow2
    have hbx : w2.heap[w.heap.size]? = some (.cells #[.int .i64 0, .int .i64 0, .slice none 0 0] 24 (0, 0)) := (hgrow2.block _ (by simp) (by simp)).trans (hp_new0 w _)
    have k0 : w2.cell? ⟨w.heap.size, 0, none⟩ = some (.int .i64 0) := by simp [World.cell?, hbx]
    have k1 : w2.cell? ⟨w.heap.size, 1, none⟩ = some (.int .i64 0) := by simp [World.cell?, hbx]
    have k2 : w2.cell? ⟨w.heap.size, 2, none⟩ = some (.slice none 0 0) := by simp [World.cell?, hbx]
    have f0 : ∀ j, w2.frozen? ⟨w.heap.size, j, none⟩ = false := fun j => by simp [World.frozen?, hbx]
    go_wp2
    refine bodyPost_ret (v := .tuple #[.agg #[.int .i64 a, .int .i64 b, .slice (some ⟨w.heap.size + 1, 0, none⟩) m m], .int .i64 0]) (by rw [results_cell_tmp rfl]; go_simp) rfl ?_
    refine ⟨((((((Below.refl _ w).alloc (Nat.le_refl _) _).grown hgrow2 (by simp) (fun k e => by cases e)).setCell (p := ⟨w.heap.size, 0, none⟩) (Nat.le_refl _) _).setCell (p := ⟨w.heap.size, 1, none⟩) (Nat.le_refl _) _).setCell (p := ⟨w.heap.size, 2, none⟩) (Nat.le_refl _) _), .inl ⟨HZ.out, _, rfl, ?_⟩⟩
    rw [HMT.out]
    exact ((hown2.kept (grown_set _ _ 0 _) (.inr (by simp [Value.ownBlock]))).kept (grown_set _ _ 1 _) (.inr (by simp [Value.ownBlock]))).kept (grown_set _ _ 2 _) (.inr (by simp [Value.ownBlock]))
  · have hz' : (sizeE a b == 0) = false := by simp [hz]
    go_enter Tryd.func12, Tryd.ntmps12
    go_wp2_with fail
    refine (size_ref _ _ ha hb _).mono ?_
    rintro e w1 ⟨rfl, rfl⟩
    go_wp2
    refine bodyPost_ret (v := .tuple #[.agg #[.int .i64 0, .int .i64 0, .slice none 0 0], .int .i64 (sizeE a b)]) (by rw [results_cell_tmp rfl]; go_simp) rfl ?_
    exact ⟨(Below.refl _ _).alloc (Nat.le_refl _) _, .inr ⟨hz, rfl⟩⟩


end Go.Proofs.YthgafdbdmemkhaaDoor
