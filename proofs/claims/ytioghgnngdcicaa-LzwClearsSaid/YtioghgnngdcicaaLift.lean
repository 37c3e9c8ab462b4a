/- From a law's walk to its row: whatever the parameters: the arguments read behind the call as before, since nothing that was there has changed. -/
import Derived.WalkKit
import Derived.ProofKit
import Derived.SizedLaws
import Derived.OpenShut
import Derived.ChangeCalls
namespace Go.Proofs.Ytioghgnngdcicaa
open Go.ChangeShapes Go.WideShapes Go.ChangeAt Go.RowKit

section
variable {H : Type} {enc : TypeId × Value → H} {P : Program}

theorem trodAll_below (hl : laidOutB P = true) {W W' : World} (hb : Below W.heap.size W W') : ∀ {ts : List TypeId} {vs : List Value} {ds : List (DataW H)} {ps : List MemPlace},
    (∀ t, t ∈ ts → P.readableRec t = true ∧ t < P.types.size) → (∀ x, x ∈ ps → x.block < W.heap.size) →
    DataW.TrodAll enc P W 0 (fun _ => true) true ts vs ds ps → DataW.TrodAll enc P W' 0 (fun b => decide (b < W.heap.size)) true ts vs ds ps
  | [], vs, ds, ps, _, _, h => by
    obtain ⟨rfl, rfl, rfl⟩ := trodAll_nil h
    exact trodAll_mk0
  | t :: ts, vs, ds, ps, hr, hlt, h => by
    obtain ⟨v, vs', d, ds', p, q, rfl, rfl, rfl, h1, h2⟩ := trodAll_cons h
    exact trodAll_cons_mk (Below.trod hl (hr t (by simp)).1 (hr t (by simp)).2 h1 hb (fun x hx => hlt x (by simp [hx])))
      (trodAll_below hl hb (fun t' ht' => hr t' (by simp [ht'])) (fun x hx => hlt x (by simp [hx])) h2)

theorem law_post {f : Func} {s : ChangeSpec} {tb : TypeId} {W W' : World} {args : Array Value} {ds gs : List (DataW H)} {before : List MemPlace}
    (hl : laidOutB P = true) (hu : P.underlying tb = some .bool) (hres : f.resultTypes = #[tb]) (hvars : s.vars = [])
    (hr : ∀ t, t ∈ f.params.toList → P.readableRec t = true ∧ t < P.types.size)
    (hspec : ∀ ds : List (DataW H), ds.length = f.params.size → s.fn H (ds ++ []) = { results := [.lit (.bool true)], args := ds })
    (hW : DataW.Whole enc P f.params.toList s.vars false W args.toList ds gs before) (hb : Below W.heap.size W W') :
    s.post enc P f false true false false W args (.bool true) W' := by
  have hW2 := hW
  obtain ⟨p, q, hA, hV, hpq, hz, hn⟩ := hW2
  rw [hvars] at hV
  obtain ⟨hgs, hq⟩ := trodVars_none hV
  subst hgs hq hpq
  have hlen := (trodAll_length hA).2
  have hsp := hspec ds (by simpa using hlen)
  refine ⟨ds, [], p ++ [], [], p, [], hW, ?_, ?_, ?_, ?_, fun h => by cases h⟩
  · rw [hsp, hres]
    exact trodAll_mk1 (shut_bool hu true)
  · rw [hsp]
    exact trodAll_below hl hb hr (fun x hx => hW.lt x (by simp [hx])) hA
  · rw [hsp, hvars]
    exact rfl
  · exact World.keptBut_mono (fun x hx => ⟨by simpa using hx, .inr (.inl (by simpa using hx))⟩) (hb.frame (· ∈ p))

theorem law_returns {C : Checked} {os : Os} {f : FuncId} {fn : Func} {s : ChangeSpec} {conds : List PathCond} {tb : TypeId} (own : ownKnob C.prog.godebug = none) (started : os.Started)
    (hi : C.prog.inits.idxOf? f = none) (hf : C.prog.funcs[f]? = some fn)
    (hl : laidOutB C.prog = true) (hu : C.prog.underlying tb = some .bool) (hres : fn.resultTypes = #[tb]) (hvars : s.vars = [])
    (hr : ∀ t, t ∈ fn.params.toList → C.prog.readableRec t = true ∧ t < C.prog.types.size)
    (hspec : ∀ ds : List (DataW H), ds.length = fn.params.size → s.fn H (ds ++ []) = { results := [.lit (.bool true)], args := ds })
    (wit : ∃ (w : World) (tape : Tape) (i : Input), w.os = os ∧ World.Shaped C.prog (w.forCall tape i) ∧ i.vars = [] ∧ Input.okWide C.prog (w.forCall tape i) Reach.any w.heap.size f i ∧
      ChangeSpec.pre6 enc C.prog fn s conds false (w.forCall tape i).memory i.args ∧ ({} : Assume).holds C.prog (lone (Frame.enter C.prog f i.args CallKind.normal) [] (w.forCall tape i)))
    (con : ∀ (W : World) (base : Nat) (args : Array Value) (ds : List (DataW H)) (p : List MemPlace),
      (∀ (j : Nat) (t : TypeId) (v : Value), fn.params[j]? = some t → args[j]? = some v → Value.okWide C.prog W Reach.any base t v) →
      DataW.TrodAll enc C.prog W 0 (fun _ => true) true fn.params.toList args.toList ds p → W.noneFrozen p →
      ((DataW.weightsEach C.prog fn.params.toList ds).all fun x => decide (x ≤ reachBytes)) = true →
      Calls C.prog f args W fun e W' => e = .returned (.bool true) ∧ Below W.heap.size W W') :
    ReturnsInHanded {} C os f Reach.any (ChangeSpec.pre6 enc C.prog fn s conds false) (ChangeSpec.post enc C.prog fn s false true false false) := by
  refine returnsInHanded_of_change_sized own started hi hf wit ?_
  intro W base args ds gs before hval hW _ hsz _
  have hW2 := hW
  obtain ⟨p, q, hA, hV, hpq, hz, hn⟩ := hW2
  rw [hvars] at hV
  obtain ⟨hgs, hq⟩ := trodVars_none hV
  subst hgs hq hpq
  have hsz' : ((DataW.weightsEach C.prog fn.params.toList ds).all fun x => decide (x ≤ reachBytes)) = true := by
    have e : DataSpec.varTypes C.prog s.plain = [] := by
      unfold DataSpec.varTypes
      have : s.plain.vars = [] := hvars
      simp [this]
    rw [e] at hsz
    simpa using hsz
  refine (con W base args ds p hval hA (by simpa using hz) hsz').mono fun e W' ⟨he, hb⟩ => ?_
  exact ⟨_, he, law_post hl hu hres hvars hr hspec hW hb⟩
end
end Go.Proofs.Ytioghgnngdcicaa
