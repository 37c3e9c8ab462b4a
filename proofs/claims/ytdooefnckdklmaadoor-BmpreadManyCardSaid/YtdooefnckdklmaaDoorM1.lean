/- Words for memory: a slice that reads as a list of cells; what stays. From a law's walk to its row: whatever the parameters: the arguments read behind the call as before, since nothing that was there has changed. A slice that came in, as a list of cells; each element's own reading. Contracts of raster's plain functions: Size, May, of the program and of the reference. depth's plain functions: Up, Mask, Eight, of the program and of the reference. slices.Chunk over []uint16, by fours: the iterator's contract. raster.Colours: how many unlike pixels, at every picture. raster.New, of the program and of the reference. raster.at: where a pixel's samples begin. raster.At: a pixel. raster.Set: a pixel is written. Unlike pixels as a list without repeats, and how many there are. -/
import Derived.WalkKit
import Derived.Below
import Derived.Laws.OwnMore
import Derived.Deep.Draws
import Derived.Laws.Rows
import Derived.ProofKit
import Derived.SizedLaws
import Derived.OpenShut
import Derived.ChangeCalls
import Derived.Deep.Slices
import Derived.Test.YtdooefnckdklmaaDoorRows
import Derived.WalkLawsBesides
import Derived.WalkSpells
import Derived.Outline
import Derived.Lib.Hide
import Derived.Deep.QuietTactic
import Derived.BigQuiet
import Derived.RangeFuncWrites
import Derived.RangeFuncLeaves
import Derived.Shelf.Abstract
import Derived.OwnWalkIn
import Derived.TacticsInMore
import Derived.LoopNIn
import Derived.LoopIn
import Derived.RegionIn
import Derived.BigRegionIn
import Derived.Maps.OwnIn
import Derived.Maps.Views
import Derived.Sort.MapsRangeIn
import Derived.DeepKeys4
import Derived.RangeFuncNested
import Derived.RangeFuncCalls
import Derived.Shelf.RegionOpen
import Derived.Laws.ResultCell
import Derived.Laws.CopyOwn
import Derived.Maps.AppendAt
import Derived.Laws.CopyRow
namespace Go.Proofs.YtdooefnckdklmaaDoor
set_option maxRecDepth 100000
open Go.RowKit

theorem below_drewN {B : Nat} {a w : World} (h : Below B a w) (n : Nat) : Below B a (w.drewN n) := ⟨h.os, h.tape, h.output, h.size, h.block⟩
theorem below_setRow {B : Nat} {a w : World} (h : Below B a w) {g : Nat} (hg : B ≤ g) (xs : Array Value) : Below B a (w.setRow g xs) :=
  h.trans ⟨rfl, rfl, rfl, by simp [World.setRow], fun k hk => setRow_other w g k xs (by omega)⟩
theorem lt_of_cell {w : World} {p : Addr} {u : Value} (h : w.cell? p = some u) : p.block < w.heap.size := World.block_lt_of_cell? w p h

/-- The slice value v reads as the cells xs, 'size' cells an element. -/
structure Sl (w : World) (v : Value) (size n : Nat) (xs : List Value) : Prop where
  len : xs.length = n * size
  form : ∃ A cap, v = .slice A n cap ∧ n ≤ cap ∧ cap ≤ maxLen ∧ (0 < n → ∃ b off, A = some ⟨b, off, none⟩ ∧ b < w.heap.size ∧ ∀ j (_ : j < n * size), w.cell? ⟨b, off + j, none⟩ = xs[j]?)

theorem Sl.below {w w' : World} {v : Value} {size n : Nat} {xs : List Value} (h : Sl w v size n xs) (hb : Below w.heap.size w w') : Sl w' v size n xs := by
  obtain ⟨hl, A, cap, rfl, h1, h2, h3⟩ := h
  refine ⟨hl, A, cap, rfl, h1, h2, fun hn => ?_⟩
  obtain ⟨b, off, rfl, hlt, hc⟩ := h3 hn
  exact ⟨b, off, rfl, Nat.lt_of_lt_of_le hlt hb.size, fun j hj => (hb.cell (p := ⟨b, off + j, none⟩) hlt).trans (hc j hj)⟩
theorem Sl.nil (w : World) (size : Nat) : Sl w (.slice none 0 0) size 0 [] := ⟨by simp, none, 0, rfl, Nat.le_refl _, by simp [maxLen], fun h => absurd h (by omega)⟩
theorem Sl.of_own {w : World} {base : Nat} {e : TypeId} {size n : Nat} {v : Value} {xs : List Value} (h : w.ownsRow base e size v n xs) : Sl w v size n xs := by
  refine ⟨h.1, ?_⟩
  rcases h.2 with ⟨rfl, rfl⟩ | ⟨g, cap, cur, rfl, hb, hg, hnc, hcm, hcs, ht⟩
  · exact ⟨none, 0, rfl, Nat.le_refl _, by simp [maxLen], fun h => absurd h (by omega)⟩
  · refine ⟨_, cap, rfl, hnc, hcm, fun _ => ⟨g, 0, rfl, (Array.getElem?_eq_some_iff.1 hg).1, fun j hj => ?_⟩⟩
    rw [cell_of_row w g _ cur e (0, 0) hg, ← ht]
    simp [hj]
theorem Sl.cell {w : World} {A : Option Addr} {cap size n : Nat} {xs : List Value} (h : Sl w (.slice A n cap) size n xs) (hn : 0 < n) :
    ∃ b off, A = some ⟨b, off, none⟩ ∧ b < w.heap.size ∧ ∀ j (_ : j < n * size), w.cell? ⟨b, off + j, none⟩ = xs[j]? := by
  obtain ⟨_, A', cap', he, _, _, h3⟩ := h
  injection he with e1 e2 e3
  subst e1
  exact h3 hn
end Go.Proofs.YtdooefnckdklmaaDoor

namespace Go.Proofs.YtdooefnckdklmaaDoor
set_option maxRecDepth 100000
open Go.ChangeShapes Go.WideShapes Go.ChangeAt Go.RowKit

section
variable {H : Type} {enc : TypeId × Value → H} {P : Program}

theorem trodAll_below (hl : laidOutB P = true) {W W' : World} (hb : Below W.heap.size W W') : ∀ {ts : List TypeId} {vs : List Value} {ds : List (DataW H)} {ps : List MemPlace},
    (∀ t, t ∈ ts → P.readableRec t = true ∧ t < P.types.size) → (∀ x, x ∈ ps → x.block < W.heap.size) →
    DataW.TrodAll enc P W 0 (fun _ => true) true ts vs ds ps → DataW.TrodAll enc P W' 0 (fun b => decide (b < W.heap.size)) true ts vs ds ps
  | [], vs, ds, ps, _, _, h => by
    obtain ⟨rfl, rfl, rfl⟩ := trodAll_nil h
    exact trodAll_mk0
  | t :: ts, vs, ds, ps, hr, hlt, h => by
    obtain ⟨v, vs', d, ds', p, q, rfl, rfl, rfl, h1, h2⟩ := trodAll_cons h
    exact trodAll_cons_mk (Below.trod hl (hr t (by simp)).1 (hr t (by simp)).2 h1 hb (fun x hx => hlt x (by simp [hx])))
      (trodAll_below hl hb (fun t' ht' => hr t' (by simp [ht'])) (fun x hx => hlt x (by simp [hx])) h2)

theorem law_post {f : Func} {s : ChangeSpec} {tb : TypeId} {W W' : World} {args : Array Value} {ds gs : List (DataW H)} {before : List MemPlace}
    (hl : laidOutB P = true) (hu : P.underlying tb = some .bool) (hres : f.resultTypes = #[tb]) (hvars : s.vars = [])
    (hr : ∀ t, t ∈ f.params.toList → P.readableRec t = true ∧ t < P.types.size)
    (hspec : ∀ ds : List (DataW H), ds.length = f.params.size → s.fn H (ds ++ []) = { results := [.lit (.bool true)], args := ds })
    (hW : DataW.Whole enc P f.params.toList s.vars false W args.toList ds gs before) (hb : Below W.heap.size W W') :
    s.post enc P f false true false false W args (.bool true) W' := by
  have hW2 := hW
  obtain ⟨p, q, hA, hV, hpq, hz, hn⟩ := hW2
  rw [hvars] at hV
  obtain ⟨hgs, hq⟩ := trodVars_none hV
  subst hgs hq hpq
  have hlen := (trodAll_length hA).2
  have hsp := hspec ds (by simpa using hlen)
  refine ⟨ds, [], p ++ [], [], p, [], hW, ?_, ?_, ?_, ?_, fun h => by cases h⟩
  · rw [hsp, hres]
    exact trodAll_mk1 (shut_bool hu true)
  · rw [hsp]
    exact trodAll_below hl hb hr (fun x hx => hW.lt x (by simp [hx])) hA
  · rw [hsp, hvars]
    exact rfl
  · exact World.keptBut_mono (fun x hx => ⟨by simpa using hx, .inr (.inl (by simpa using hx))⟩) (hb.frame (· ∈ p))

theorem law_returns {C : Checked} {os : Os} {f : FuncId} {fn : Func} {s : ChangeSpec} {conds : List PathCond} {tb : TypeId} (own : ownKnob C.prog.godebug = none) (started : os.Started)
    (hi : C.prog.inits.idxOf? f = none) (hf : C.prog.funcs[f]? = some fn)
    (hl : laidOutB C.prog = true) (hu : C.prog.underlying tb = some .bool) (hres : fn.resultTypes = #[tb]) (hvars : s.vars = [])
    (hr : ∀ t, t ∈ fn.params.toList → C.prog.readableRec t = true ∧ t < C.prog.types.size)
    (hspec : ∀ ds : List (DataW H), ds.length = fn.params.size → s.fn H (ds ++ []) = { results := [.lit (.bool true)], args := ds })
    (wit : ∃ (w : World) (tape : Tape) (i : Input), w.os = os ∧ World.Shaped C.prog (w.forCall tape i) ∧ i.vars = [] ∧ Input.okWide C.prog (w.forCall tape i) Reach.any w.heap.size f i ∧
      ChangeSpec.pre6 enc C.prog fn s conds false (w.forCall tape i).memory i.args ∧ ({} : Assume).holds C.prog (lone (Frame.enter C.prog f i.args CallKind.normal) [] (w.forCall tape i)))
    (con : ∀ (W : World) (base : Nat) (args : Array Value) (ds : List (DataW H)) (p : List MemPlace),
      (∀ (j : Nat) (t : TypeId) (v : Value), fn.params[j]? = some t → args[j]? = some v → Value.okWide C.prog W Reach.any base t v) →
      DataW.TrodAll enc C.prog W 0 (fun _ => true) true fn.params.toList args.toList ds p → W.noneFrozen p →
      ((DataW.weightsEach C.prog fn.params.toList ds).all fun x => decide (x ≤ reachBytes)) = true →
      Calls C.prog f args W fun e W' => e = .returned (.bool true) ∧ Below W.heap.size W W') :
    ReturnsInHanded {} C os f Reach.any (ChangeSpec.pre6 enc C.prog fn s conds false) (ChangeSpec.post enc C.prog fn s false true false false) := by
  refine returnsInHanded_of_change_sized own started hi hf wit ?_
  intro W base args ds gs before hval hW _ hsz _
  have hW2 := hW
  obtain ⟨p, q, hA, hV, hpq, hz, hn⟩ := hW2
  rw [hvars] at hV
  obtain ⟨hgs, hq⟩ := trodVars_none hV
  subst hgs hq hpq
  have hsz' : ((DataW.weightsEach C.prog fn.params.toList ds).all fun x => decide (x ≤ reachBytes)) = true := by
    have e : DataSpec.varTypes C.prog s.plain = [] := by
      unfold DataSpec.varTypes
      have : s.plain.vars = [] := hvars
      simp [this]
    rw [e] at hsz
    simpa using hsz
  refine (con W base args ds p hval hA (by simpa using hz) hsz').mono fun e W' ⟨he, hb⟩ => ?_
  exact ⟨_, he, law_post hl hu hres hvars hr hspec hW hb⟩
end
end Go.Proofs.YtdooefnckdklmaaDoor

namespace Go.Proofs.YtdooefnckdklmaaDoor
set_option maxRecDepth 100000
open Go.ChangeShapes Go.WideShapes Go.ChangeAt Go.RowKit

section
variable {H : Type} {enc : TypeId × Value → H} {P : Program} {w : World}
theorem flat_get {size n : Nat} (E : Nat → List Value) (hE : ∀ i, i < n → (E i).length = size) (i j : Nat) (hi : i < n) (hj : j < size) : ((List.range n).flatMap E)[i * size + j]? = (E i)[j]? := by
  induction n generalizing i with
  | zero => omega
  | succ n ih =>
    rw [List.range_succ, List.flatMap_append]
    have hlen : ((List.range n).flatMap E).length = n * size := by
      clear ih hi
      induction n with
      | zero => simp
      | succ m ihm =>
        rw [List.range_succ, List.flatMap_append, List.length_append, ihm (fun i hi => hE i (by omega))]
        simp [hE m (by omega), Nat.add_mul]
    by_cases h : i < n
    · rw [List.getElem?_append_left, ih (fun i hi => hE i (by omega)) i h]
      rw [hlen]
      calc i * size + j < i * size + size := by omega
        _ = (i + 1) * size := by rw [Nat.add_mul]; omega
        _ ≤ n * size := Nat.mul_le_mul_right _ h
    · obtain rfl : i = n := by omega
      rw [List.getElem?_append_right (by rw [hlen]; omega), hlen]
      simp
theorem flat_len {size n : Nat} (E : Nat → List Value) (hE : ∀ i, i < n → (E i).length = size) : ((List.range n).flatMap E).length = n * size := by
  induction n with
  | zero => simp
  | succ m ihm =>
    rw [List.range_succ, List.flatMap_append, List.length_append, ihm (fun i hi => hE i (by omega))]
    simp [hE m (by omega), Nat.add_mul]

/-- A slice that came in: its elements' cells, and that each reads. -/
theorem open_sl {r : Reach} {b0 : Nat} {t e size : Nat} {v : Value} {d : DataW H} {p : List MemPlace} (ht : P.underlying t = some (.slice e)) (hsz : P.cellsOf e = size) (hpos : 0 < size)
    (hv : Value.okWide P w r b0 t v) (h : DataW.Trod enc P w 0 (fun _ => true) true t v d p) :
    ∃ (n : Nat) (E : Nat → List Value), Sl w v size n ((List.range n).flatMap E) ∧ (∀ i, i < n → (E i).length = size) ∧
      ∀ i, i < n → ∃ fuel y, DataW.trod enc P w 0 (fun _ => true) true fuel e (E i) = some y := by
  obtain ⟨a0, len, cap, rfl⟩ := okWide_slice ht hv
  obtain ⟨fuel, hf⟩ := h
  rcases Go.Deep.open_slice ht hf with ⟨hcs, _⟩ | ⟨a, len', cap', m, n, D, Pl, hcs, _, hl, hm, hmm, _, hx⟩
  · simp [Value.cells] at hcs
    obtain ⟨rfl, rfl, rfl⟩ := hcs
    exact ⟨0, fun _ => [], by simpa using Sl.nil w size, fun i hi => by omega, fun i hi => by omega⟩
  · simp [Value.cells] at hcs
    obtain ⟨rfl, rfl, rfl⟩ := hcs
    simp only [if_true] at hmm
    subst hmm
    have hx' : ∀ i, i < len → ∃ cs' : List Value, w.cells? 0 (a.add (i * P.cellsOf e)) (P.cellsOf e) = some cs' ∧ DataW.trod enc P w 0 (fun _ => true) true n e cs' = some (D i, Pl i) := fun i hi => hx i (by omega)
    obtain ⟨E, hE⟩ := Go.Deep.choose_lt (α := List Value) hx'
    have hlen : ∀ i, i < len → (E i).length = size := fun i hi => by
      obtain ⟨_, h2, _⟩ := World.cells?_some (hE i hi).1
      rw [← hsz]; exact h2
    have hcell : ∀ i j, i < len → j < size → w.cell? (a.add (i * size + j)) = (E i)[j]? := fun i j hi hj => by
      obtain ⟨_, h2, h3⟩ := World.cells?_some (hE i hi).1
      have hj' : j < P.cellsOf e := by rw [hsz]; exact hj
      have := h3 j hj'
      rw [Go.Deep.add_add, hsz] at this
      exact this
    refine ⟨len, E, ⟨flat_len E hlen, some a, _, rfl, hl, hm, fun hn => ?_⟩, hlen, fun i hi => ⟨n, _, (hE i hi).2⟩⟩
    have h00 := hcell 0 0 hn hpos
    have hs0 : (E 0)[0]? = some ((E 0)[0]'(by rw [hlen 0 hn]; exact hpos)) := List.getElem?_eq_getElem _
    rw [hs0] at h00
    have hspot : a.spot = none := by
      have e0 : a.add (0 * size + 0) = a := by simp [Addr.add]
      rw [e0] at h00
      unfold World.cell? at h00
      split at h00
      · split at h00
        · cases h00
        · rename_i hsp
          cases hs : a.spot with
          | none => rfl
          | some x => rw [hs] at hsp; simp at hsp
      · cases h00
    obtain ⟨b, off, sp⟩ := a
    simp only at hspot
    subst hspot
    have hb : b < w.heap.size := by
      have := World.block_lt_of_cell? w _ h00
      simpa [Addr.add] using this
    refine ⟨b, off, rfl, hb, fun j hj => ?_⟩
    have hi : j / size < len := Nat.div_lt_of_lt_mul (by rw [Nat.mul_comm]; exact hj)
    have hr : j % size < size := Nat.mod_lt _ hpos
    have hdm : j / size * size + j % size = j := by rw [Nat.mul_comm]; exact Nat.div_add_mod j size
    have h1 := hcell (j / size) (j % size) hi hr
    have h2 := flat_get (n := len) E hlen (j / size) (j % size) hi hr
    rw [hdm] at h1 h2
    rw [h2, ← h1, Addr.add_lit]
end
end Go.Proofs.YtdooefnckdklmaaDoor

namespace Go.Proofs.YtdooefnckdklmaaDoor
set_option maxRecDepth 100000
set_option linter.unusedVariables false
open Go.ChangeShapes Go.WideShapes Go.ChangeAt Go.RowKit

theorem ret_i {k : IntKind} {a b : Int} (h : a = b) : Ending.returned (.int k a) = .returned (.int k b) := by rw [h]
theorem ret_b {b b' : Bool} (h' : b = b') : Ending.returned (.bool b) = .returned (.bool b') := by rw [h']
theorem ret2_ib {k : IntKind} {a a' : Int} {b b' : Bool} (h : a = a') (h' : b = b') : Ending.returned (.tuple #[.int k a, .bool b]) = .returned (.tuple #[.int k a', .bool b']) := by rw [h, h']
theorem quiet_left {P : Program} {f : FuncId} {args : Array Value} {w : World} {n : Nat} {v : Value}
    (h : Calls P f args (w.drewN n) fun e w' => e = .returned v ∧ w.drewN n = w') : Calls P f args (w.drewN n) fun e w'' => e = .returned v ∧ ∃ m, w'' = w.drewN m :=
  h.mono fun _ _ ⟨he, hm⟩ => ⟨he, n, hm.symm⟩
def In64 (a : Int) : Prop := -9223372036854775808 ≤ a ∧ a ≤ 9223372036854775807
theorem mul_bd (n b N B : Int) (h0 : 0 ≤ n) (h1 : n ≤ N) (h2 : 0 ≤ b) (h3 : b ≤ B) : 0 ≤ n * b ∧ n * b ≤ N * B :=
  ⟨Int.mul_nonneg h0 h2, Int.mul_le_mul h1 h3 h2 (by omega)⟩

/-- Whether sides may be: 0, or the error's number. -/
def sizeE (w h : Int) : Int := if w < 1 ∨ h < 1 then 1 else if 256 < w ∨ 256 < h ∨ 16384 / h < w then 6 else 0
theorem size_ok {a b : Int} (h : sizeE a b = 0) : 1 ≤ a ∧ a ≤ 256 ∧ 1 ≤ b ∧ b ≤ 256 ∧ a * b ≤ 16384 := by
  unfold sizeE at h
  split at h
  · omega
  · split at h
    · omega
    · rename_i h1 h2
      have h3 : a ≤ 16384 / b := by omega
      rw [Int.le_ediv_iff_mul_le (by omega)] at h3
      omega
theorem sizeE_bd (a b : Int) : 0 ≤ sizeE a b ∧ sizeE a b ≤ 6 := by
  unfold sizeE
  split
  · omega
  · split <;> omega
/-- Whether sides and so many samples are a picture. -/
def mayB (w h : Int) (n : Nat) : Bool := decide (sizeE w h = 0 ∧ (n : Int) = 4 * w * h)
theorem may_ok {a b : Int} {n : Nat} (h : mayB a b n = true) : sizeE a b = 0 ∧ (n : Int) = 4 * a * b := by simpa [mayB] using h

theorem size_prog (a b : Int) (ha : In64 a) (hb : In64 b) (w : World) :
    Calls Tryd.prog 62 #[.int .i64 a, .int .i64 b] w fun e w' => e = .returned (.int .i64 (sizeE a b)) ∧ w = w' := by
  obtain ⟨ha, ha'⟩ := ha
  obtain ⟨hb, hb'⟩ := hb
  by_cases h1 : a < 1
  · go_enter Tryd.func62, Tryd.ntmps62
    go_wp2
    go_ret
    exact ⟨ret_i (by simp [sizeE, h1]), rfl⟩
  · by_cases h2 : b < 1
    · go_enter Tryd.func62, Tryd.ntmps62
      go_wp2
      go_ret
      exact ⟨ret_i (by simp [sizeE, h2]), rfl⟩
    · go_enter Tryd.func62, Tryd.ntmps62
      go_wp2
      all_goals go_ret
      all_goals refine ⟨ret_i ?_, rfl⟩
      all_goals (unfold sizeE; rw [if_neg (by omega)]; first | rw [if_pos (by omega)] | rw [if_neg (by omega)])
theorem size_ref (a b : Int) (ha : In64 a) (hb : In64 b) (w : World) :
    Calls Tryd.prog 36 #[.int .i64 a, .int .i64 b] w fun e w' => e = .returned (.int .i64 (sizeE a b)) ∧ w = w' := by
  obtain ⟨ha, ha'⟩ := ha
  obtain ⟨hb, hb'⟩ := hb
  by_cases h1 : a < 1
  · go_enter Tryd.func36, Tryd.ntmps36
    go_wp2
    go_ret
    exact ⟨ret_i (by simp [sizeE, h1]), rfl⟩
  · by_cases h2 : b < 1
    · go_enter Tryd.func36, Tryd.ntmps36
      go_wp2
      go_ret
      exact ⟨ret_i (by simp [sizeE, h2]), rfl⟩
    · go_enter Tryd.func36, Tryd.ntmps36
      go_wp2
      all_goals go_ret
      all_goals refine ⟨ret_i ?_, rfl⟩
      all_goals (unfold sizeE; rw [if_neg (by omega)]; first | rw [if_pos (by omega)] | rw [if_neg (by omega)])

theorem may_prog (a b : Int) (A : Option Addr) (n cap : Nat) (ha : In64 a) (hb : In64 b) (hn : n ≤ cap) (hc : cap ≤ maxLen) (w : World) :
    Calls Tryd.prog 69 #[.agg #[.int .i64 a, .int .i64 b, .slice A n cap]] w fun e w' => e = .returned (.bool (mayB a b n)) ∧ Below w.heap.size w w' := by
  unfold maxLen at hc
  by_cases hz : sizeE a b = 0
  · obtain ⟨h1, h2, h3, h4, h5⟩ := size_ok hz
    have m1 := mul_bd (4 * a) b 1024 256 (by omega) (by omega) (by omega) h4
    obtain ⟨m10, m11⟩ := m1
    have hz' : (sizeE a b == 0) = true := by simp [hz]
    have hv : mayB a b n = ((n : Int) == 4 * a * b) := by
      simp only [mayB, hz, true_and]
      rw [Bool.eq_iff_iff]
      simp
    have HV := Lib.hid hv
    clear hz hv
    go_enter Tryd.func69, Tryd.ntmps69
    go_wp2_with (go_at_call 62; refine (size_prog _ _ ha hb _).mono ?_; rintro e w' ⟨rfl, rfl⟩)
    go_ret
    exact ⟨ret_b HV.out.symm, (Below.refl _ _).alloc (Nat.le_refl _) _⟩
  · have hv : mayB a b n = false := by simp [mayB, hz]
    have hz' : (sizeE a b == 0) = false := by simp [hz]
    have HV := Lib.hid hv
    clear hz hv
    go_enter Tryd.func69, Tryd.ntmps69
    go_wp2_with (go_at_call 62; refine (size_prog _ _ ha hb _).mono ?_; rintro e w' ⟨rfl, rfl⟩)
    go_ret
    exact ⟨ret_b HV.out.symm, (Below.refl _ _).alloc (Nat.le_refl _) _⟩
theorem may_ref (a b : Int) (A : Option Addr) (n cap : Nat) (ha : In64 a) (hb : In64 b) (hn : n ≤ cap) (hc : cap ≤ maxLen) (w : World) :
    Calls Tryd.prog 18 #[.agg #[.int .i64 a, .int .i64 b, .slice A n cap]] w fun e w' => e = .returned (.bool (mayB a b n)) ∧ Below w.heap.size w w' := by
  unfold maxLen at hc
  by_cases hz : sizeE a b = 0
  · obtain ⟨h1, h2, h3, h4, h5⟩ := size_ok hz
    have m1 := mul_bd (4 * a) b 1024 256 (by omega) (by omega) (by omega) h4
    obtain ⟨m10, m11⟩ := m1
    have hz' : (sizeE a b == 0) = true := by simp [hz]
    have hv : mayB a b n = ((n : Int) == 4 * a * b) := by
      simp only [mayB, hz, true_and]
      rw [Bool.eq_iff_iff]
      simp
    have HV := Lib.hid hv
    clear hz hv
    go_enter Tryd.func18, Tryd.ntmps18
    go_wp2_with (go_at_call 36; refine (size_ref _ _ ha hb _).mono ?_; rintro e w' ⟨rfl, rfl⟩)
    go_ret
    exact ⟨ret_b HV.out.symm, (Below.refl _ _).alloc (Nat.le_refl _) _⟩
  · have hv : mayB a b n = false := by simp [mayB, hz]
    have hz' : (sizeE a b == 0) = false := by simp [hz]
    have HV := Lib.hid hv
    clear hz hv
    go_enter Tryd.func18, Tryd.ntmps18
    go_wp2_with (go_at_call 36; refine (size_ref _ _ ha hb _).mono ?_; rintro e w' ⟨rfl, rfl⟩)
    go_ret
    exact ⟨ret_b HV.out.symm, (Below.refl _ _).alloc (Nat.le_refl _) _⟩
end Go.Proofs.YtdooefnckdklmaaDoor

namespace Go.Proofs.YtdooefnckdklmaaDoor
set_option maxRecDepth 100000
set_option linter.unusedVariables false
open Go.ChangeShapes Go.WideShapes Go.ChangeAt Go.RowKit

def upB (v b : Int) : Bool := decide ((b = 1 ∨ b = 2 ∨ b = 4 ∨ b = 8 ∨ b = 16) ∧ 0 ≤ v ∧ v < 2 ^ b.toNat)
def upV (v b : Int) : Int := if upB v b then v * (65535 / (2 ^ b.toNat - 1)) else 0
def maskB (v b : Int) : Bool := decide (1 ≤ b ∧ b ≤ 8 ∧ 0 ≤ v ∧ v < 2 ^ b.toNat)
def maskV (v b : Int) : Int := if maskB v b then (2 * v * 255 + (2 ^ b.toNat - 1)) / (2 * (2 ^ b.toNat - 1)) * 257 else 0
def eightB (s : Int) : Bool := decide (s % 257 = 0)
def eightV (s : Int) : Int := if eightB s then s / 257 else 0

theorem up9 (v b : Int) (hv : -9223372036854775808 ≤ v) (hv' : v ≤ 9223372036854775807) (w : World) :
    Calls Tryd.prog 68 #[.int .i64 v, .int .i64 b] w fun e w' => e = .returned (.tuple #[.int .u16 (upV v b), .bool (upB v b)]) ∧ w = w' := by
  have hb : b = 1 ∨ b = 2 ∨ b = 4 ∨ b = 8 ∨ b = 16 ∨ (b ≠ 1 ∧ b ≠ 2 ∧ b ≠ 4 ∧ b ≠ 8 ∧ b ≠ 16) := by omega
  rcases hb with rfl | rfl | rfl | rfl | rfl | ⟨h1, h2, h3, h4, h5⟩
  all_goals
    go_enter Tryd.func68, Tryd.ntmps68
    go_wp2
  all_goals go_ret2
  all_goals refine ⟨ret2_ib ?_ ?_, rfl⟩
  all_goals (simp [upV, upB]; try omega)
theorem mask11 (v b : Int) (hv : -9223372036854775808 ≤ v) (hv' : v ≤ 9223372036854775807) (w : World) :
    Calls Tryd.prog 72 #[.int .i64 v, .int .i64 b] w fun e w' => e = .returned (.tuple #[.int .u16 (maskV v b), .bool (maskB v b)]) ∧ w = w' := by
  have hb : b = 1 ∨ b = 2 ∨ b = 3 ∨ b = 4 ∨ b = 5 ∨ b = 6 ∨ b = 7 ∨ b = 8 ∨ b < 1 ∨ 8 < b := by omega
  rcases hb with rfl | rfl | rfl | rfl | rfl | rfl | rfl | rfl | h1 | h1
  all_goals
    go_enter Tryd.func72, Tryd.ntmps72
    go_wp2
  all_goals go_ret2
  all_goals refine ⟨ret2_ib ?_ ?_, rfl⟩
  all_goals (simp [maskV, maskB]; try omega)
set_option maxHeartbeats 400000 in
theorem mask12 (v b : Int) (hv : -9223372036854775808 ≤ v) (hv' : v ≤ 9223372036854775807) (w : World) :
    Calls Tryd.prog 22 #[.int .i64 v, .int .i64 b] w fun e w' => e = .returned (.tuple #[.int .u16 (maskV v b), .bool (maskB v b)]) ∧ w = w' := by
  have hb : b = 1 ∨ b = 2 ∨ b = 3 ∨ b = 4 ∨ b = 5 ∨ b = 6 ∨ b = 7 ∨ b = 8 ∨ b < 1 ∨ 8 < b := by omega
  rcases hb with rfl | rfl | rfl | rfl | rfl | rfl | rfl | rfl | h1 | h1
  all_goals
    go_enter Tryd.func22, Tryd.ntmps22
    go_wp2
  all_goals go_ret2
  all_goals refine ⟨ret2_ib ?_ ?_, rfl⟩
  all_goals (simp [maskV, maskB]; try omega)
theorem u16_quo (s : Int) (h0 : 0 ≤ s) (h1 : s ≤ 65535) : IntKind.u16.wrap (s.tdiv 257) = s / 257 := by
  rw [Int.tdiv_eq_ediv_of_nonneg h0]
  simp [IntKind.wrap, IntKind.signed, IntKind.bits]; omega
end Go.Proofs.YtdooefnckdklmaaDoor

namespace Go.Proofs.YtdooefnckdklmaaDoor
set_option maxRecDepth 100000
set_option linter.unusedVariables false
open Go.ChangeShapes Go.WideShapes Go.ChangeAt Go.RowKit Go.Shelf
attribute [local go_sem] Oper.semAt_some

/-- What a round keeps: what lay below n₀, and the two boxes of the iterator. -/
def KpC (n₀ Bs Bn : Nat) (W W' : World) : Prop := Below n₀ W W' ∧ W'.heap[Bs]? = W.heap[Bs]? ∧ W'.heap[Bn]? = W.heap[Bn]?
theorem kpC_refl (n₀ Bs Bn : Nat) (W : World) : KpC n₀ Bs Bn W W := ⟨Below.refl _ _, rfl, rfl⟩
theorem kpC_trans {n₀ Bs Bn : Nat} {A B C : World} (h : KpC n₀ Bs Bn A B) (k : KpC n₀ Bs Bn B C) : KpC n₀ Bs Bn A C := ⟨h.1.trans k.1, k.2.1.trans h.2.1, k.2.2.trans h.2.2⟩

theorem grown_drewC (w : World) (row : Option Nat) : w.grownBy w.drew row := ⟨rfl, rfl, rfl, Nat.le_refl _, fun _ _ _ => rfl⟩

end Go.Proofs.YtdooefnckdklmaaDoor

namespace Go.Proofs.YtdooefnckdklmaaDoor
set_option maxRecDepth 100000
set_option linter.unusedVariables false
open Go.ChangeShapes Go.WideShapes Go.ChangeAt Go.RowKit Go.Shelf
open Go.Maps (Keyed setOf setOf_snoc size_setOf addKey)
attribute [local go_sem] Oper.semAt_some

/-! ### The key: four samples -/
theorem laidOut : laidOutB Tryd.prog = true := by kernel_rfl
theorem row41 : (43 : TypeId) < Tryd.prog.types.size := of_decide_eq_true (by kernel_rfl)
theorem law41 : WideMaps.KeyLaw Tryd.prog 43 := deep_law_laid laidOut (m := 2) (by omega) row41 (by kernel_rfl) (by kernel_rfl)
theorem keyed41 : Keyed Tryd.prog 43 := Keyed.of_law law41
theorem cells41 : Tryd.prog.cellsOf 43 = 4 := by kernel_rfl
theorem cells38 : Tryd.prog.cellsOf 42 = 1 := by kernel_rfl
theorem ktype41 : Tryd.prog.keyType 43 = true := by kernel_rfl
theorem types_succ : ∃ m, Tryd.prog.types.size = m + 2 := ⟨Tryd.prog.types.size - 2, by kernel_rfl⟩
def u4 (c : Nat → Nat) (i : Nat) : List Lit := [.int .u16 (c (4 * i) : Nat), .int .u16 (c (4 * i + 1) : Nat), .int .u16 (c (4 * i + 2) : Nat), .int .u16 (c (4 * i + 3) : Nat)]
def px (c : Nat → Nat) (i : Nat) : Value := .agg #[.int .u16 (c (4 * i) : Nat), .int .u16 (c (4 * i + 1) : Nat), .int .u16 (c (4 * i + 2) : Nat), .int .u16 (c (4 * i + 3) : Nat)]
def kl (c : Nat → Nat) (i : Nat) : Lit := .string (keyBytes (u4 c i))
theorem wf16 {a : Nat} (h : a < 65536) : (Lit.int .u16 (a : Int)).wf = true := by
  have h1 : IntKind.u16.min = 0 := rfl
  have h2 : IntKind.u16.max = 65535 := rfl
  simp [Lit.wf, h1, h2]
  omega
theorem key_px (c : Nat → Nat) (hc : ∀ i, c i < 65536) (i : Nat) : keyOf Tryd.prog 43 (px c i) = some (kl c i) := by
  have hf : (px c i).formed Tryd.prog 43 = true := by simp [px, Value.formed, Tryd.underlying43, cells41]
  obtain ⟨m, hm⟩ := types_succ
  have h1 : ∀ j, Tryd.prog.keyLits (m + 2) 42 [.int .u16 (c j : Nat)] = some [.int .u16 (c j : Nat)] := fun j => by
    simp [Program.keyLits, Tryd.underlying42, wf16 (hc j)]
  unfold keyOf
  rw [Tryd.underlying43]
  simp only [ktype41, hf, hm, Bool.and_self, if_true]
  rw [Program.keyLits.eq_def]
  simp only [Tryd.underlying43]
  simp [px, Value.cells, cells41, cells38, List.range_succ, h1, kl, u4]

/-! ### The count -/
def cnt (l : List Lit) : Nat := (l.foldl addKey []).length
theorem addKey_le (acc : List Lit) (x : Lit) : acc.length ≤ (addKey acc x).length ∧ (addKey acc x).length ≤ acc.length + 1 := by
  unfold addKey; split <;> simp
theorem fold_le (l : List Lit) : ∀ acc : List Lit, acc.length ≤ (l.foldl addKey acc).length ∧ (l.foldl addKey acc).length ≤ acc.length + l.length := by
  induction l with
  | nil => intro acc; simp
  | cons x l ih =>
    intro acc
    have h1 := ih (addKey acc x)
    have h2 := addKey_le acc x
    simp only [List.foldl_cons, List.length_cons]
    omega
theorem cnt_le (l : List Lit) : cnt l ≤ l.length := by have := (fold_le l []).2; simpa [cnt] using this
theorem cnt_mono (l l' : List Lit) : cnt l ≤ cnt (l ++ l') := by
  unfold cnt
  rw [List.foldl_append]
  exact (fold_le l' _).1
def kls (c : Nat → Nat) (N : Nat) : List Lit := (List.range N).map (kl c)
theorem cnt_pre (c : Nat → Nat) {k N : Nat} (h : k ≤ N) : cnt (kls c k) ≤ cnt (kls c N) := by
  obtain ⟨d, rfl⟩ := Nat.le.dest h
  unfold kls
  rw [List.range_add, List.map_append]
  exact cnt_mono _ _
/-- raster.Colours: the count, and whether it is within the limit. -/
def colN (c : Nat → Nat) (N : Nat) (most : Int) : Int := if most < (cnt (kls c N) : Nat) then 0 else (cnt (kls c N) : Nat)
def colB (c : Nat → Nat) (N : Nat) (most : Int) : Bool := decide ((cnt (kls c N) : Int) ≤ most)

theorem hp_alloc {W : World} {B : Nat} {o : Obj} (o' : Obj) (h : W.heap[B]? = some o) : (W.alloc o').heap[B]? = some o := (Below.heap_alloc W o' B (Array.getElem?_eq_some_iff.1 h).1).trans h
theorem hp_below {n B : Nat} {W W' : World} {o : Obj} (h : W.heap[B]? = some o) (hb : Below n W W') (hlt : B < n) : W'.heap[B]? = some o := (hb.block B hlt).trans h
theorem hp_cell {W : World} {B j : Nat} {cs : Array Value} {t : TypeId} {v : Value} (h : W.heap[B]? = some (.cells cs t (0, 0))) (hv : cs[j]? = some v) : W.cell? ⟨B, j, none⟩ = some v := by
  simp [World.cell?, h, hv]
def cellsO (cs : Array Value) (t : TypeId) : Obj := .cells cs t
theorem results_cell2 {fn : Func} {p q : Tmp} {tp tq : TypeId} (h : fn.results = #[.cell p tp, .cell q tq]) (tmps : Array Value) (P : Program) (w : World) :
    (results fn tmps).run P w =
      ((asAddr (tmps.getD p undef)).run P w).andThen fun a w₁ => ((loadVar tp a).run P w₁).andThen fun v w₂ => ((asAddr (tmps.getD q undef)).run P w₂).andThen fun b w₃ => ((loadVar tq b).run P w₃).andThen fun u w₄ => .ok (.tuple #[v, u]) w₄ := by
  simp only [results, h]
  simp [Sem.run_bind, Result.andThen]
def R54 : Value → Option (DataW Unit × List MemPlace) := fun _ => some (.nil, [])
/-- The world of raster.Colours's four boxes. -/
theorem four_boxes (w : World) (cs : Array Value) (v1 v2 v3 : Value) (t0 t1 t2 t3 : TypeId) :
    let W := (((w.alloc (.cells cs t0)).alloc (.cells #[v1] t1)).alloc (.cells #[v2] t2)).alloc (.cells #[v3] t3)
    W.heap.size = w.heap.size + 4 ∧ W.heap[w.heap.size]? = some (.cells cs t0 (0, 0)) ∧ Boxed W (w.heap.size + 1) t1 v1 ∧ Boxed W (w.heap.size + 1 + 1) t2 v2 ∧ Boxed W (w.heap.size + 1 + 1 + 1) t3 v3 := by
  intro W
  have h1 := Boxed.new (w.alloc (.cells cs t0)) t1 v1
  have h2 := Boxed.new ((w.alloc (.cells cs t0)).alloc (.cells #[v1] t1)) t2 v2
  have h3 := Boxed.new (((w.alloc (.cells cs t0)).alloc (.cells #[v1] t1)).alloc (.cells #[v2] t2)) t3 v3
  simp only [World.size_alloc] at h1 h2 h3
  exact ⟨by simp [W, World.size_alloc], hp_alloc _ (hp_alloc _ (hp_alloc _ (World.alloc_heap_new w _))), (h1.alloc _).alloc _, h2.alloc _, h3⟩

theorem kpC_b {n₀ Bs Bn n : Nat} (h0 : n₀ ≤ n) (h1 : Bs < n) (h2 : Bn < n) (W : World) (l : Nat) (o o' : Obj) (hl : n ≤ l) (h : W.heap[l]? = some o) (hc : o.isCells = false) (hw : o.isWalk = false) : KpC n₀ Bs Bn W (W.putObj l o') := by
  have g : ∀ j, j < n → (W.putObj l o').heap[j]? = W.heap[j]? := fun j hj => by
    unfold World.putObj
    simp [Array.getElem?_setIfInBounds]
    omega
  exact ⟨⟨rfl, rfl, rfl, by simp [World.putObj], fun k hk => g k (by omega)⟩, g _ h1, g _ h2⟩
end Go.Proofs.YtdooefnckdklmaaDoor

namespace Go.Proofs.YtdooefnckdklmaaDoor
set_option maxRecDepth 100000
set_option linter.unusedVariables false
open Go.ChangeShapes Go.WideShapes Go.ChangeAt Go.RowKit

theorem info16 : (Tryd.prog.info? 42).map (fun i => (i.zero, i.size, i.bytes)) = some (some (.int .u16 0), 1, 2) := by kernel_rfl
theorem zeros_get (n j : Nat) (hj : j < n) : (madeCells #[.int .u16 0] n).toList[j]? = some (.int .u16 0) := by
  simp [madeCells, hj, Nat.mod_one]
def zeros (n : Nat) : List Value := (madeCells #[.int .u16 0] n).toList
theorem hp_new0 (w : World) (o : Obj) : (w.alloc o).heap[w.heap.size]? = some o := (MapKept.heap_alloc w o).1
theorem grown_set (w : World) (b i : Nat) (v : Value) : w.grownBy (w.setCell ⟨b, i, none⟩ v) (some b) :=
  ⟨rfl, rfl, rfl, by simp [World.setCell], fun k _ hk => Below.heap_setCell w _ v k (fun e => hk (by rw [e]))⟩
def newPost (a b : Int) (w : World) (e : Ending) (w' : World) : Prop :=
  (sizeE a b = 0 ∧ ∃ v, e = .returned (.tuple #[.agg #[.int .i64 a, .int .i64 b, v], .int .i64 0]) ∧ w'.ownsRow (w.heap.size + 1) 42 1 v (4 * a * b).toNat (zeros (4 * a * b).toNat)) ∨
  (sizeE a b ≠ 0 ∧ e = .returned (.tuple #[.agg #[.int .i64 0, .int .i64 0, .slice none 0 0], .int .i64 (sizeE a b)]))

set_option maxRecDepth 100000 in
set_option maxHeartbeats 1000000 in
theorem new_prog (a b : Int) (ha : In64 a) (hb : In64 b) (w : World) :
    Calls Tryd.prog 53 #[.int .i64 a, .int .i64 b] w fun e w' => Below w.heap.size w w' ∧ newPost a b w e w' := by
  by_cases hz : sizeE a b = 0
  · obtain ⟨h1, h2, h3, h4, h5⟩ := size_ok hz
    obtain ⟨m10, m11⟩ := mul_bd (4 * a) b 1024 256 (by omega) (by omega) (by omega) h4
    obtain ⟨m, hm⟩ : ∃ m : Nat, 4 * a * b = (m : Int) := ⟨(4 * a * b).toNat, by omega⟩
    have hmt : (4 * a * b).toNat = m := by omega
    have hm1 : m ≤ 262144 := by omega
    have hz' : (sizeE a b == 0) = true := by simp [hz]
    obtain ⟨i0, hi, hz0, hz1, hz2⟩ := info_parts info16
    have hw1 : wrap64 (4 * a) = 4 * a := IntWalk.wrap64_in _ (by omega)
    have hw2 : wrap64 (4 * a * b) = (m : Int) := (IntWalk.wrap64_in _ (by omega)).trans hm
    have HZ := Lib.hid hz
    have HMT := Lib.hid hmt
    go_enter Tryd.func53, Tryd.ntmps53
    go_wp2_with fail
    refine (size_prog _ _ ha hb _).mono ?_
    rintro e w1 ⟨rfl, rfl⟩
    rw [hz]
    go_wp2_with (at_make; refine wpList_make_full _ rfl _ _ 24 rfl (w.heap.size + 1) 42 i0 _ 1 Tryd.underlying24 hi hz0 hz1 _ _ _ _ m rfl rfl rfl rfl (by rw [hz2]; omega) (by unfold maxLen; omega) (by simp) ?_)
    intro w2 hown2 hgrow2
    have hbx : w2.heap[w.heap.size]? = some (.cells #[.int .i64 0, .int .i64 0, .slice none 0 0] 26 (0, 0)) := (hgrow2.block _ (by simp) (by simp)).trans (hp_new0 w _)
    have k0 : w2.cell? ⟨w.heap.size, 0, none⟩ = some (.int .i64 0) := by simp [World.cell?, hbx]
    have k1 : w2.cell? ⟨w.heap.size, 1, none⟩ = some (.int .i64 0) := by simp [World.cell?, hbx]
    have k2 : w2.cell? ⟨w.heap.size, 2, none⟩ = some (.slice none 0 0) := by simp [World.cell?, hbx]
    have f0 : ∀ j, w2.frozen? ⟨w.heap.size, j, none⟩ = false := fun j => by simp [World.frozen?, hbx]
    go_wp2
    refine bodyPost_ret (v := .tuple #[.agg #[.int .i64 a, .int .i64 b, .slice (some ⟨w.heap.size + 1, 0, none⟩) m m], .int .i64 0]) (by rw [results_cell_tmp rfl]; go_simp) rfl ?_
    refine ⟨((((((Below.refl _ w).alloc (Nat.le_refl _) _).grown hgrow2 (by simp) (fun k e => by cases e)).setCell (p := ⟨w.heap.size, 0, none⟩) (Nat.le_refl _) _).setCell (p := ⟨w.heap.size, 1, none⟩) (Nat.le_refl _) _).setCell (p := ⟨w.heap.size, 2, none⟩) (Nat.le_refl _) _), .inl ⟨HZ.out, _, rfl, ?_⟩⟩
    rw [HMT.out]
    exact ((hown2.kept (grown_set _ _ 0 _) (.inr (by simp [Value.ownBlock]))).kept (grown_set _ _ 1 _) (.inr (by simp [Value.ownBlock]))).kept (grown_set _ _ 2 _) (.inr (by simp [Value.ownBlock]))
  · have hz' : (sizeE a b == 0) = false := by simp [hz]
    go_enter Tryd.func53, Tryd.ntmps53
    go_wp2_with fail
    refine (size_prog _ _ ha hb _).mono ?_
    rintro e w1 ⟨rfl, rfl⟩
    go_wp2
    refine bodyPost_ret (v := .tuple #[.agg #[.int .i64 0, .int .i64 0, .slice none 0 0], .int .i64 (sizeE a b)]) (by rw [results_cell_tmp rfl]; go_simp) rfl ?_
    exact ⟨(Below.refl _ _).alloc (Nat.le_refl _) _, .inr ⟨hz, rfl⟩⟩

set_option maxRecDepth 100000 in
set_option maxHeartbeats 1000000 in
theorem new_ref (a b : Int) (ha : In64 a) (hb : In64 b) (w : World) :
    Calls Tryd.prog 23 #[.int .i64 a, .int .i64 b] w fun e w' => Below w.heap.size w w' ∧ newPost a b w e w' := by
  by_cases hz : sizeE a b = 0
  · obtain ⟨h1, h2, h3, h4, h5⟩ := size_ok hz
    obtain ⟨m10, m11⟩ := mul_bd (4 * a) b 1024 256 (by omega) (by omega) (by omega) h4
    obtain ⟨m, hm⟩ : ∃ m : Nat, 4 * a * b = (m : Int) := ⟨(4 * a * b).toNat, by omega⟩
    have hmt : (4 * a * b).toNat = m := by omega
    have hm1 : m ≤ 262144 := by omega
    have hz' : (sizeE a b == 0) = true := by simp [hz]
    obtain ⟨i0, hi, hz0, hz1, hz2⟩ := info_parts info16
    have hw1 : wrap64 (4 * a) = 4 * a := IntWalk.wrap64_in _ (by omega)
    have hw2 : wrap64 (4 * a * b) = (m : Int) := (IntWalk.wrap64_in _ (by omega)).trans hm
    have HZ := Lib.hid hz
    have HMT := Lib.hid hmt
    go_enter Tryd.func23, Tryd.ntmps23
    go_wp2_with fail
    refine (size_ref _ _ ha hb _).mono ?_
    rintro e w1 ⟨rfl, rfl⟩
    rw [hz]
    go_wp2_with (at_make; refine wpList_make_full _ rfl _ _ 24 rfl (w.heap.size + 1) 42 i0 _ 1 Tryd.underlying24 hi hz0 hz1 _ _ _ _ m rfl rfl rfl rfl (by rw [hz2]; omega) (by unfold maxLen; omega) (by simp) ?_)
    intro w2 hown2 hgrow2
    have hbx : w2.heap[w.heap.size]? = some (.cells #[.int .i64 0, .int .i64 0, .slice none 0 0] 26 (0, 0)) := (hgrow2.block _ (by simp) (by simp)).trans (hp_new0 w _)
    have k0 : w2.cell? ⟨w.heap.size, 0, none⟩ = some (.int .i64 0) := by simp [World.cell?, hbx]
    have k1 : w2.cell? ⟨w.heap.size, 1, none⟩ = some (.int .i64 0) := by simp [World.cell?, hbx]
    have k2 : w2.cell? ⟨w.heap.size, 2, none⟩ = some (.slice none 0 0) := by simp [World.cell?, hbx]
    have f0 : ∀ j, w2.frozen? ⟨w.heap.size, j, none⟩ = false := fun j => by simp [World.frozen?, hbx]
    go_wp2
    refine bodyPost_ret (v := .tuple #[.agg #[.int .i64 a, .int .i64 b, .slice (some ⟨w.heap.size + 1, 0, none⟩) m m], .int .i64 0]) (by rw [results_cell_tmp rfl]; go_simp) rfl ?_
    refine ⟨((((((Below.refl _ w).alloc (Nat.le_refl _) _).grown hgrow2 (by simp) (fun k e => by cases e)).setCell (p := ⟨w.heap.size, 0, none⟩) (Nat.le_refl _) _).setCell (p := ⟨w.heap.size, 1, none⟩) (Nat.le_refl _) _).setCell (p := ⟨w.heap.size, 2, none⟩) (Nat.le_refl _) _), .inl ⟨HZ.out, _, rfl, ?_⟩⟩
    rw [HMT.out]
    exact ((hown2.kept (grown_set _ _ 0 _) (.inr (by simp [Value.ownBlock]))).kept (grown_set _ _ 1 _) (.inr (by simp [Value.ownBlock]))).kept (grown_set _ _ 2 _) (.inr (by simp [Value.ownBlock]))
  · have hz' : (sizeE a b == 0) = false := by simp [hz]
    go_enter Tryd.func23, Tryd.ntmps23
    go_wp2_with fail
    refine (size_ref _ _ ha hb _).mono ?_
    rintro e w1 ⟨rfl, rfl⟩
    go_wp2
    refine bodyPost_ret (v := .tuple #[.agg #[.int .i64 0, .int .i64 0, .slice none 0 0], .int .i64 (sizeE a b)]) (by rw [results_cell_tmp rfl]; go_simp) rfl ?_
    exact ⟨(Below.refl _ _).alloc (Nat.le_refl _) _, .inr ⟨hz, rfl⟩⟩


end Go.Proofs.YtdooefnckdklmaaDoor

namespace Go.Proofs.YtdooefnckdklmaaDoor
set_option maxRecDepth 100000
set_option linter.unusedVariables false
open Go.ChangeShapes Go.WideShapes Go.ChangeAt Go.RowKit

def inB (a b : Int) (n : Nat) (x y : Int) : Bool := mayB a b n && decide (0 ≤ x ∧ x < a ∧ 0 ≤ y ∧ y < b)
theorem in_ok {a b : Int} {n : Nat} {x y : Int} (h : inB a b n x y = true) : mayB a b n = true ∧ 0 ≤ x ∧ x < a ∧ 0 ≤ y ∧ y < b := by simpa [inB] using h

theorem at_cases (a b : Int) (n : Nat) (x y : Int) :
    (mayB a b n = false) ∨ (mayB a b n = true ∧ x < 0) ∨ (mayB a b n = true ∧ 0 ≤ x ∧ a ≤ x) ∨ (mayB a b n = true ∧ 0 ≤ x ∧ x < a ∧ y < 0) ∨ (mayB a b n = true ∧ 0 ≤ x ∧ x < a ∧ 0 ≤ y ∧ b ≤ y) ∨ (mayB a b n = true ∧ 0 ≤ x ∧ x < a ∧ 0 ≤ y ∧ y < b) := by
  cases mayB a b n
  · exact .inl rfl
  · simp
    omega

set_option maxRecDepth 100000 in
set_option maxHeartbeats 2000000 in
theorem at_prog (a b : Int) (A : Option Addr) (n cap : Nat) (x y : Int) (ha : In64 a) (hb : In64 b) (hn : n ≤ cap) (hc : cap ≤ maxLen) (w : World) :
    Calls Tryd.prog 65 #[.agg #[.int .i64 a, .int .i64 b, .slice A n cap], .int .i64 x, .int .i64 y] w fun e w' =>
      Below w.heap.size w w' ∧ ∃ i, e = .returned (.tuple #[.int .i64 i, .bool (inB a b n x y)]) ∧ (inB a b n x y = true → i = 4 * (y * a + x)) := by
  rcases at_cases a b n x y with hm | ⟨hm, h1⟩ | ⟨hm, h1, h2⟩ | ⟨hm, h1, h2, h3⟩ | ⟨hm, h1, h2, h3, h4⟩ | ⟨hm, h1, h2, h3, h4⟩
  case inr.inr.inr.inr.inr =>
    have hr : inB a b n x y = true := by simp [inB, hm]; omega
    have HR := Lib.hid hr
    obtain ⟨q1, q2, q3, q4, q5⟩ := size_ok (may_ok hm).1
    obtain ⟨m0, m1⟩ := mul_bd y a 256 256 h3 (by omega) (by omega) q2
    have w1 : wrap64 (y * a) = y * a := IntWalk.wrap64_in _ (by omega)
    have w2 : wrap64 (y * a + x) = y * a + x := IntWalk.wrap64_in _ (by omega)
    have w3 : wrap64 (4 * (y * a + x)) = 4 * (y * a + x) := IntWalk.wrap64_in _ (by omega)
    have HM := Lib.hid hm
    clear hm hr q1 q2 q3 q4 q5
    go_enter Tryd.func65, Tryd.ntmps65
    go_wp2_with fail
    refine (may_prog a b A n cap ha hb hn hc _).mono ?_
    rintro e u1 ⟨rfl, hB⟩
    rw [HM.out]
    have hbx := hp_below (hp_new0 w _) hB (by simp)
    have k0 := hp_cell (j := 0) hbx rfl
    have k1 := hp_cell (j := 1) hbx rfl
    have HB := Lib.hid ((((Below.refl _ w).alloc (Nat.le_refl _) _).trans (hB.mono (by simp))))
    clear hB hbx
    go_wp2
    go_ret2
    refine ⟨HB.out, _, ret2_ib rfl (by rw [HR.out] <;> (simp; omega)), ?_⟩
    intro _
    exact w3
  case inl =>
    have hr : inB a b n x y = false := by simp [inB, hm]
    have HR := Lib.hid hr
    have HM := Lib.hid hm
    clear hm hr
    go_enter Tryd.func65, Tryd.ntmps65
    go_wp2_with fail
    refine (may_prog a b A n cap ha hb hn hc _).mono ?_
    rintro e u1 ⟨rfl, hB⟩
    rw [HM.out]
    have hbx := hp_below (hp_new0 w _) hB (by simp)
    have k0 := hp_cell (j := 0) hbx rfl
    have k1 := hp_cell (j := 1) hbx rfl
    have HB := Lib.hid ((((Below.refl _ w).alloc (Nat.le_refl _) _).trans (hB.mono (by simp))))
    clear hB hbx
    go_wp2
    go_ret2
    refine ⟨HB.out, _, ret2_ib rfl (by rw [HR.out] <;> (simp; omega)), ?_⟩
    intro h
    rw [HR.out] at h
    cases h
  case inr.inl =>
    have hr : inB a b n x y = false := by simp [inB, hm]; omega
    have HR := Lib.hid hr
    have HM := Lib.hid hm
    clear hm hr
    go_enter Tryd.func65, Tryd.ntmps65
    go_wp2_with fail
    refine (may_prog a b A n cap ha hb hn hc _).mono ?_
    rintro e u1 ⟨rfl, hB⟩
    rw [HM.out]
    have hbx := hp_below (hp_new0 w _) hB (by simp)
    have k0 := hp_cell (j := 0) hbx rfl
    have k1 := hp_cell (j := 1) hbx rfl
    have HB := Lib.hid ((((Below.refl _ w).alloc (Nat.le_refl _) _).trans (hB.mono (by simp))))
    clear hB hbx
    go_wp2
    go_ret2
    refine ⟨HB.out, _, ret2_ib rfl (by rw [HR.out] <;> (simp; omega)), ?_⟩
    intro h
    rw [HR.out] at h
    cases h
  case inr.inr.inl =>
    have hr : inB a b n x y = false := by simp [inB, hm]; omega
    have HR := Lib.hid hr
    have HM := Lib.hid hm
    clear hm hr
    go_enter Tryd.func65, Tryd.ntmps65
    go_wp2_with fail
    refine (may_prog a b A n cap ha hb hn hc _).mono ?_
    rintro e u1 ⟨rfl, hB⟩
    rw [HM.out]
    have hbx := hp_below (hp_new0 w _) hB (by simp)
    have k0 := hp_cell (j := 0) hbx rfl
    have k1 := hp_cell (j := 1) hbx rfl
    have HB := Lib.hid ((((Below.refl _ w).alloc (Nat.le_refl _) _).trans (hB.mono (by simp))))
    clear hB hbx
    go_wp2
    go_ret2
    refine ⟨HB.out, _, ret2_ib rfl (by rw [HR.out] <;> (simp; omega)), ?_⟩
    intro h
    rw [HR.out] at h
    cases h
  case inr.inr.inr.inl =>
    have hr : inB a b n x y = false := by simp [inB, hm]; omega
    have HR := Lib.hid hr
    have HM := Lib.hid hm
    clear hm hr
    go_enter Tryd.func65, Tryd.ntmps65
    go_wp2_with fail
    refine (may_prog a b A n cap ha hb hn hc _).mono ?_
    rintro e u1 ⟨rfl, hB⟩
    rw [HM.out]
    have hbx := hp_below (hp_new0 w _) hB (by simp)
    have k0 := hp_cell (j := 0) hbx rfl
    have k1 := hp_cell (j := 1) hbx rfl
    have HB := Lib.hid ((((Below.refl _ w).alloc (Nat.le_refl _) _).trans (hB.mono (by simp))))
    clear hB hbx
    go_wp2
    go_ret2
    refine ⟨HB.out, _, ret2_ib rfl (by rw [HR.out] <;> (simp; omega)), ?_⟩
    intro h
    rw [HR.out] at h
    cases h
  case inr.inr.inr.inr.inl =>
    have hr : inB a b n x y = false := by simp [inB, hm]; omega
    have HR := Lib.hid hr
    have HM := Lib.hid hm
    clear hm hr
    go_enter Tryd.func65, Tryd.ntmps65
    go_wp2_with fail
    refine (may_prog a b A n cap ha hb hn hc _).mono ?_
    rintro e u1 ⟨rfl, hB⟩
    rw [HM.out]
    have hbx := hp_below (hp_new0 w _) hB (by simp)
    have k0 := hp_cell (j := 0) hbx rfl
    have k1 := hp_cell (j := 1) hbx rfl
    have HB := Lib.hid ((((Below.refl _ w).alloc (Nat.le_refl _) _).trans (hB.mono (by simp))))
    clear hB hbx
    go_wp2
    go_ret2
    refine ⟨HB.out, _, ret2_ib rfl (by rw [HR.out] <;> (simp; omega)), ?_⟩
    intro h
    rw [HR.out] at h
    cases h
end Go.Proofs.YtdooefnckdklmaaDoor

namespace Go.Proofs.YtdooefnckdklmaaDoor
set_option maxRecDepth 100000
set_option linter.unusedVariables false
open Go.ChangeShapes Go.WideShapes Go.ChangeAt Go.RowKit

/-- A picture's samples lie in w: n of them, c j the j-th. -/
def Pix (w : World) (A : Option Addr) (n : Nat) (c : Nat → Nat) : Prop :=
  0 < n → ∃ bk off, A = some ⟨bk, off, none⟩ ∧ bk < w.heap.size ∧ ∀ j, j < n → w.cell? ⟨bk, off + j, none⟩ = some (.int .u16 (c j : Nat))
theorem Pix.below {w w' : World} {A : Option Addr} {n : Nat} {c : Nat → Nat} (h : Pix w A n c) (hb : Below w.heap.size w w') : Pix w' A n c := fun hn => by
  obtain ⟨bk, off, rfl, hlt, hc⟩ := h hn
  exact ⟨bk, off, rfl, Nat.lt_of_lt_of_le hlt hb.size, fun j hj => (hb.cell (p := ⟨bk, off + j, none⟩) hlt).trans (hc j hj)⟩
theorem pixB {w W : World} {o : Obj} {A : Option Addr} {n : Nat} {c : Nat → Nat} (h : Pix (w.alloc o) A n c) (hb : Below (w.heap.size + 1) (w.alloc o) W) : Pix W A n c := h.below (by rw [World.size_alloc]; exact hb)
theorem keep_below {w8 w w' : World} {o : Obj} (h : Below (w8.heap.size + 1) (w8.alloc o) w) (hb : Below w.heap.size w w') : Below (w8.heap.size + 1) (w8.alloc o) w' := h.trans (hb.mono (by have := h.size; rwa [World.size_alloc] at this))
theorem below_keep {w w' : World} {p : Addr} {v : Value} (hb : Below w.heap.size w w') (h : w.cell? p = some v) : w'.cell? p = some v := (hb.cell (lt_of_cell h)).trans h
/-- The two boxes of a comparison. -/
theorem two_boxes (w : World) (cs cs2 : Array Value) (t t2 : TypeId) : let W := (w.alloc (.cells cs t)).alloc (.cells cs2 t2)
    W.heap.size = w.heap.size + 2 ∧ W.heap[w.heap.size]? = some (.cells cs t (0, 0)) ∧ W.heap[w.heap.size + 1]? = some (.cells cs2 t2 (0, 0)) ∧ Below w.heap.size w W := by
  intro W
  have h2 := hp_new0 (w.alloc (.cells cs t)) (.cells cs2 t2)
  rw [World.size_alloc] at h2
  exact ⟨by simp [W, World.size_alloc], hp_alloc _ (hp_new0 _ _), h2, ((Below.refl _ w).alloc (Nat.le_refl _) _).alloc (by simp) _⟩
/-- The place of a pixel, and that it lies within. -/
theorem in_place {a b : Int} {n : Nat} {x y : Int} (h : inB a b n x y = true) : ∃ k : Nat, y * a + x = (k : Int) ∧ 4 * k + 4 ≤ n ∧ n ≤ 65536 := by
  obtain ⟨hm, h1, h2, h3, h4⟩ := in_ok h
  obtain ⟨hz, hn⟩ := may_ok hm
  obtain ⟨q1, q2, q3, q4, q5⟩ := size_ok hz
  obtain ⟨m0, m1⟩ := mul_bd y a 256 256 h3 (by omega) (by omega) q2
  refine ⟨(y * a + x).toNat, by omega, ?_, ?_⟩
  · have e : (y + 1) * a ≤ b * a := Int.mul_le_mul_of_nonneg_right (by omega) (by omega)
    rw [Int.add_mul, Int.one_mul] at e
    have e2 : 4 * a * b = 4 * (b * a) := by rw [Int.mul_assoc, Int.mul_comm a b]
    omega
  · have e2 : 4 * a * b = 4 * (a * b) := by rw [Int.mul_assoc]
    omega
def zero4 : Value := .agg #[.int .u16 0, .int .u16 0, .int .u16 0, .int .u16 0]
def getV (a b : Int) (n : Nat) (c : Nat → Nat) (x y : Int) : Value := if inB a b n x y = true then px c (y * a + x).toNat else zero4

end Go.Proofs.YtdooefnckdklmaaDoor

namespace Go.Proofs.YtdooefnckdklmaaDoor
set_option maxRecDepth 100000
set_option linter.unusedVariables false
open Go.ChangeShapes Go.WideShapes Go.ChangeAt Go.RowKit

theorem grown_of_below {w w' : World} (h : Below w.heap.size w w') (row : Option Nat) : w.grownBy w' row := ⟨h.os, h.tape, h.output, h.size, fun i hi _ => h.block i hi⟩
theorem grown_setRow (w : World) (g : Nat) (cs : Array Value) : w.grownBy (w.setRow g cs) (some g) := ⟨rfl, rfl, rfl, by simp [World.setRow], fun i _ hne => setRow_other w g i cs (fun e => hne (by rw [e]))⟩
theorem grown_drewS (w : World) (row : Option Nat) : w.grownBy w.drew row := ⟨rfl, rfl, rfl, Nat.le_refl _, fun _ _ _ => rfl⟩
def pix4 (p0 p1 p2 p3 : Nat) : List Value := [.int .u16 (p0 : Nat), .int .u16 (p1 : Nat), .int .u16 (p2 : Nat), .int .u16 (p3 : Nat)]
def setCur (cur : Array Value) (k : Nat) (cs : List Value) : Array Value := (cur.toList.take (4 * k) ++ cs ++ cur.toList.drop (4 * k + cs.length)).toArray
theorem setCur_size (cur : Array Value) (k : Nat) (cs : List Value) (h : 4 * k + cs.length ≤ cur.size) : (setCur cur k cs).size = cur.size := by
  simp [setCur]; omega
theorem setCur_in (cur : Array Value) (k : Nat) (cs : List Value) (h : 4 * k + cs.length ≤ cur.size) (j : Nat) (hj : j < cs.length) : (setCur cur k cs)[4 * k + j]? = cs[j]? := by
  have e1 : (cur.toList.take (4 * k)).length = 4 * k := by rw [List.length_take]; simp; omega
  unfold setCur
  rw [List.getElem?_toArray, List.append_assoc, List.getElem?_append_right (by omega), e1, List.getElem?_append_left (by omega)]
  congr 1
  omega
theorem setCur_out (cur : Array Value) (k : Nat) (cs : List Value) (h : 4 * k + cs.length ≤ cur.size) (j : Nat) (hj : j < 4 * k ∨ 4 * k + cs.length ≤ j) : (setCur cur k cs)[j]? = cur[j]? := by
  have e1 : (cur.toList.take (4 * k)).length = 4 * k := by rw [List.length_take]; simp; omega
  unfold setCur
  rw [List.getElem?_toArray, List.append_assoc]
  rcases hj with hj | hj
  · rw [List.getElem?_append_left (by omega), List.getElem?_take, if_pos (by omega)]
    simp
  · rw [List.getElem?_append_right (by omega), e1, List.getElem?_append_right (by omega), List.getElem?_drop]
    simp
    congr 1
    omega
theorem size38 : (Tryd.prog.info? 42).map (·.size) = some 1 := by kernel_rfl

set_option maxRecDepth 100000 in
set_option maxHeartbeats 2000000 in
theorem set_prog (a b : Int) (g n cap : Nat) (x y : Int) (p0 p1 p2 p3 : Nat) (ha : In64 a) (hb : In64 b) (hn : n ≤ cap) (hc : cap ≤ maxLen) (w : World) (cur : Array Value) (hg : w.heap[g]? = some (.cells cur 42 (0, 0))) (hcur : n ≤ cur.size) (k : Nat) (hr : inB a b n x y = true) (hk : y * a + x = (k : Int)) (hk4 : 4 * k + 4 ≤ n) :
    Calls Tryd.prog 60 #[.agg #[.int .i64 a, .int .i64 b, .slice (some ⟨g, 0, none⟩) n cap], .int .i64 x, .int .i64 y, .agg #[.int .u16 (p0 : Nat), .int .u16 (p1 : Nat), .int .u16 (p2 : Nat), .int .u16 (p3 : Nat)]] w fun e w' =>
      e = .returned (.bool true) ∧ w.grownBy w' (some g) ∧ w'.heap[g]? = some (.cells (setCur cur k (pix4 p0 p1 p2 p3)) 42 (0, 0)) := by
  have HR := Lib.hid hr
  have hgl : g < w.heap.size := (Array.getElem?_eq_some_iff.1 hg).1
  unfold maxLen at hc
  clear hr
  go_enter Tryd.func60, Tryd.ntmps60
  go_wp2_with fail
  refine (at_prog a b _ n cap x y ha hb hn (by unfold maxLen; omega) _).mono ?_
  rintro e u1 ⟨hB, i, rfl, hi⟩
  obtain rfl := hi HR.out
  rw [HR.out, hk]
  have hB0 := (((Below.refl _ w).alloc (Nat.le_refl _) _).alloc (by simp) _).trans (hB.mono (by simp; omega))
  have q0 := hp_below (hp_alloc _ (hp_new0 w _)) hB (by simp; omega)
  have q1 := hp_below (hp_new0 _ _) hB (by simp)
  rw [World.size_alloc] at q1
  have k2 := hp_cell (j := 2) q0 rfl
  have hg1 := hp_below hg hB0 hgl
  have hrun := run_copy_row (P := Tryd.prog) u1.drew 24 24 3 42 g (4 * k) (n - 4 * k) (cap - 4 * k) ⟨w.heap.size + 1, 0, none⟩ 4 4 cur _ (pix4 p0 p1 p2 p3) Tryd.underlying24 size38 hg1 (show 4 = Nat.min 4 (n - 4 * k) from (Nat.min_eq_left (by omega)).symm)
    (by
      intro j v hj
      match j, hj with
      | 0, hj => exact (hp_cell (j := 0) q1 rfl).trans hj
      | 1, hj => exact (hp_cell (j := 1) q1 rfl).trans hj
      | 2, hj => exact (hp_cell (j := 2) q1 rfl).trans hj
      | 3, hj => exact (hp_cell (j := 3) q1 rfl).trans hj) (by simp [pix4]; omega) (by simp [pix4, Value.oneCell'])
  have hgr : w.grownBy (u1.drew.setRow g (setCur cur k (pix4 p0 p1 p2 p3))) (some g) := ((grown_of_below hB0 _).trans (grown_drewS _ _)).trans (grown_setRow _ _ _)
  have hgh : (u1.drew.setRow g (setCur cur k (pix4 p0 p1 p2 p3))).heap[g]? = some (.cells (setCur cur k (pix4 p0 p1 p2 p3)) 42 (0, 0)) := setRow_heap _ _ _ _ _ _ hg1
  have HG := Lib.hid hgr
  have HH := Lib.hid hgh
  have hl4 : (pix4 p0 p1 p2 p3).length = 4 := rfl
  change _ = Result.ok _ (u1.drew.setRow g (setCur cur k (pix4 p0 p1 p2 p3))) at hrun
  rw [hl4] at hrun
  clear hB hB0 q0 q1 hg hg1 hgr hgh hl4
  have hck : ¬cap = 4 * k := by omega
  go_wp2
  go_region
  all_goals go_wp2
  all_goals go_ret
  all_goals exact ⟨rfl, HG.out, HH.out⟩

set_option maxRecDepth 100000 in
set_option maxHeartbeats 2000000 in
theorem set_no (a b : Int) (A : Option Addr) (n cap : Nat) (x y : Int) (p0 p1 p2 p3 : Nat) (ha : In64 a) (hb : In64 b) (hn : n ≤ cap) (hc : cap ≤ maxLen) (w : World) (hr : inB a b n x y = false) :
    Calls Tryd.prog 60 #[.agg #[.int .i64 a, .int .i64 b, .slice A n cap], .int .i64 x, .int .i64 y, .agg #[.int .u16 (p0 : Nat), .int .u16 (p1 : Nat), .int .u16 (p2 : Nat), .int .u16 (p3 : Nat)]] w fun e w' =>
      e = .returned (.bool false) ∧ Below w.heap.size w w' := by
  have HR := Lib.hid hr
  clear hr
  go_enter Tryd.func60, Tryd.ntmps60
  go_wp2_with fail
  refine (at_prog a b _ n cap x y ha hb hn hc _).mono ?_
  rintro e u1 ⟨hB, i, rfl, hi⟩
  rw [HR.out]
  clear hi
  have HB := Lib.hid ((((Below.refl _ w).alloc (Nat.le_refl _) _).alloc (by simp) _).trans (hB.mono (by simp; omega)))
  clear hB
  go_wp2
  go_ret
  exact ⟨rfl, HB.out⟩
end Go.Proofs.YtdooefnckdklmaaDoor

namespace Go.Proofs.YtdooefnckdklmaaDoor
set_option maxRecDepth 100000
set_option linter.unusedVariables false
open Go.ChangeShapes Go.WideShapes Go.ChangeAt Go.RowKit Go.Shelf
open Go.Maps (addKey)

abbrev P4 := Nat × Nat × Nat × Nat
def p4 (c : Nat → Nat) (i : Nat) : P4 := (c (4 * i), c (4 * i + 1), c (4 * i + 2), c (4 * i + 3))
def ll (c : Nat → Nat) (N : Nat) : List P4 := (List.range N).map (p4 c)
def addP (acc : List P4) (x : P4) : List P4 := if x ∈ acc then acc else acc ++ [x]
/-- The unlike ones, in the order in which they first come. -/
def uni (l : List P4) : List P4 := l.foldl addP []
def w4 (p : P4) : Prop := p.1 < 65536 ∧ p.2.1 < 65536 ∧ p.2.2.1 < 65536 ∧ p.2.2.2 < 65536
def lits4 (p : P4) : List Lit := [.int .u16 (p.1 : Nat), .int .u16 (p.2.1 : Nat), .int .u16 (p.2.2.1 : Nat), .int .u16 (p.2.2.2 : Nat)]
def klP (p : P4) : Lit := .string (keyBytes (lits4 p))
theorem kl_p4 (c : Nat → Nat) (i : Nat) : kl c i = klP (p4 c i) := rfl
theorem w4_p4 {c : Nat → Nat} (hc : ∀ i, c i < 65536) (i : Nat) : w4 (p4 c i) := ⟨hc _, hc _, hc _, hc _⟩
theorem klP_inj {p q : P4} (hp : w4 p) (hq : w4 q) (h : klP p = klP q) : p = q := by
  obtain ⟨a, b, c, d⟩ := p
  obtain ⟨a', b', c', d'⟩ := q
  obtain ⟨h1, h2, h3, h4⟩ := hp
  obtain ⟨k1, k2, k3, k4⟩ := hq
  unfold klP at h
  injection h with h
  have e := keyBytes_inj (l := lits4 (a, b, c, d)) (l' := lits4 (a', b', c', d')) (by simp [Alike, lits4, Lit.sameKind])
    (by intro x hx; simp [lits4] at hx; rcases hx with rfl | rfl | rfl | rfl <;> exact wf16 ‹_›)
    (by intro x hx; simp [lits4] at hx; rcases hx with rfl | rfl | rfl | rfl <;> exact wf16 ‹_›) h
  simp [lits4] at e
  obtain ⟨e1, e2, e3, e4⟩ := e
  simp; omega
theorem any_same {acc : List P4} {x : P4} (ha : ∀ y ∈ acc, w4 y) (hx : w4 x) : (acc.map klP).any (fun y => y.sameKey (klP x)) = decide (x ∈ acc) := by
  rw [Bool.eq_iff_iff]
  simp only [List.any_map, List.any_eq_true, decide_eq_true_eq, Function.comp]
  constructor
  · rintro ⟨y, hy, h⟩
    have : klP y = klP x := by simpa [klP, Lit.sameKey] using h
    rwa [← klP_inj (ha y hy) hx this]
  · intro h
    exact ⟨x, h, by simp [klP, Lit.sameKey]⟩
theorem fold_klP (l : List P4) : ∀ acc : List P4, (∀ y ∈ l, w4 y) → (∀ y ∈ acc, w4 y) → (l.map klP).foldl addKey (acc.map klP) = (l.foldl addP acc).map klP := by
  induction l with
  | nil => intro acc _ _; rfl
  | cons x l ih =>
    intro acc hl ha
    have e : addKey (acc.map klP) (klP x) = (addP acc x).map klP := by
      unfold addKey addP
      rw [any_same ha (hl x (by simp))]
      by_cases h : x ∈ acc <;> simp [h]
    simp only [List.map_cons, List.foldl_cons]
    rw [e]
    refine ih _ (fun y hy => hl y (by simp [hy])) ?_
    intro y hy
    unfold addP at hy
    split at hy
    · exact ha y hy
    · simp at hy
      rcases hy with hy | rfl
      · exact ha y hy
      · exact hl _ (by simp)
theorem cnt_uni {c : Nat → Nat} (hc : ∀ i, c i < 65536) (N : Nat) : cnt (kls c N) = (uni (ll c N)).length := by
  have e : kls c N = (ll c N).map klP := by unfold kls ll; rw [List.map_map]; rfl
  unfold cnt uni
  rw [e]
  have := fold_klP (ll c N) [] (by
    intro y hy
    obtain ⟨i, _, rfl⟩ := List.mem_map.1 hy
    exact w4_p4 hc i) (by simp)
  rw [List.map_nil] at this
  rw [this, List.length_map]
theorem uni_nodup_aux (l : List P4) : ∀ acc : List P4, (acc ++ l).Nodup → l.foldl addP acc = acc ++ l := by
  induction l with
  | nil => intro acc _; simp
  | cons x l ih =>
    intro acc h
    have hx : x ∉ acc := by
      intro hx
      rw [List.nodup_append] at h
      exact h.2.2 x hx x (by simp) rfl
    have e : addP acc x = acc ++ [x] := by unfold addP; rw [if_neg hx]
    rw [List.foldl_cons, e, ih _ (by rw [List.append_assoc]; exact h), List.append_assoc]
    rfl
theorem uni_nodup {l : List P4} (h : l.Nodup) : uni l = l := by
  unfold uni
  rw [uni_nodup_aux l [] (by simpa using h)]
  rfl
end Go.Proofs.YtdooefnckdklmaaDoor
