/- The table of a writer of GIF's codes: a map by rows. -/
import Derived.Test.YtioghgnngdcicaaLzH
import Derived.Maps.Own
import Derived.Maps.OwnOps
import Derived.Maps.OwnSet
import Derived.Maps.Views
import Derived.DeepKeys4
namespace Go.Proofs.Ytioghgnngdcicaa
set_option linter.unusedVariables false
open Go.ChangeShapes Go.WideShapes Go.ChangeAt Go.RowKit
open Go.Maps

theorem laidOutZ : laidOutB Try.prog = true := by kernel_rfl
theorem row81 : (81 : TypeId) < Try.prog.types.size := of_decide_eq_true (by kernel_rfl)
theorem law81 : WideMaps.KeyLaw Try.prog 81 := deep_law_laid laidOutZ (m := 3) (by omega) row81 (by kernel_rfl) (by kernel_rfl)
theorem keyed81 : Keyed Try.prog 81 := Keyed.of_law law81
def litsE (c : Int) (v : Nat) : List Lit := [.int .i64 c, .int .u8 (v : Nat)]
def klE (c : Int) (v : Nat) : Lit := .string (keyBytes (litsE c v))
def eV (c : Int) (v : Nat) : Value := .agg #[.int .i64 c, .int .u8 (v : Nat)]
theorem wfE1 {c : Int} (h : -9223372036854775808 ≤ c ∧ c ≤ 9223372036854775807) : (Lit.int .i64 c).wf = true := by
  have h1 : IntKind.i64.min = -9223372036854775808 := rfl
  have h2 : IntKind.i64.max = 9223372036854775807 := rfl
  simp [Lit.wf, h1, h2]
  omega
theorem wfE2 {v : Nat} (h : v < 256) : (Lit.int .u8 (v : Int)).wf = true := by
  have h1 : IntKind.u8.min = 0 := rfl
  have h2 : IntKind.u8.max = 255 := rfl
  simp [Lit.wf, h1, h2]
  omega
theorem cellsE : Try.prog.cellsOf 81 = 2 := by kernel_rfl
theorem ktypeE : Try.prog.keyType 81 = true := by kernel_rfl
theorem types_succ3 : ∃ m, Try.prog.types.size = m + 3 := ⟨Try.prog.types.size - 3, by kernel_rfl⟩
theorem cellsOI : Try.prog.cellsOf 3 = 1 := by kernel_rfl
theorem cellsU : Try.prog.cellsOf 5 = 1 := by kernel_rfl
theorem key_eV (c : Int) (v : Nat) (hc : -9223372036854775808 ≤ c ∧ c ≤ 9223372036854775807) (hv : v < 256) : keyOf Try.prog 81 (eV c v) = some (klE c v) := by
  have hf : (eV c v).formed Try.prog 81 = true := by
    simp [eV, Value.formed, Try.underlying81]
    exact cellsE.symm
  obtain ⟨m, hm⟩ := types_succ3
  have h1 : Try.prog.keyLits (m + 3) 3 [.int .i64 c] = some [.int .i64 c] := by simp [Program.keyLits, Try.underlying3, wfE1 hc]
  have h2 : Try.prog.keyLits (m + 3) 5 [.int .u8 (v : Nat)] = some [.int .u8 (v : Nat)] := by simp [Program.keyLits, Try.underlying5, wfE2 hv]
  unfold keyOf
  rw [Try.underlying81]
  simp only [ktypeE, hf, hm, Bool.and_self, if_true]
  rw [Program.keyLits.eq_def]
  simp only [Try.underlying81]
  simp [eV, Value.cells, cellsOI, cellsU, h1, h2, klE, litsE]
  exact cellsE.symm
theorem klE_key (c : Int) (v : Nat) : WideAt.IsKeyLit (klE c v) := trivial
def In64' (c : Int) : Prop := -9223372036854775808 ≤ c ∧ c ≤ 9223372036854775807
theorem klE_inj {c c' : Int} {v v' : Nat} (hc : In64' c) (hv : v < 256) (hc' : In64' c') (hv' : v' < 256) (h : klE c v = klE c' v') : c = c' ∧ v = v' := by
  unfold klE at h
  injection h with h
  have e := keyBytes_inj (l := litsE c v) (l' := litsE c' v') (by simp [Alike, litsE, Lit.sameKind])
    (by intro x hx; simp [litsE] at hx; rcases hx with rfl | rfl; exact wfE1 hc; exact wfE2 hv)
    (by intro x hx; simp [litsE] at hx; rcases hx with rfl | rfl; exact wfE1 hc'; exact wfE2 hv') h
  simp [litsE] at e
  omega
/-- A table's keys. -/
def TabWf (t : List (Nat × Nat)) : Prop := ∀ x ∈ t, x.1 < 100000 ∧ x.2 < 256
/-- The map holds the places of a table. -/
def EMap (D : DataW Unit) (cl : Nat) (t : List (Nat × Nat)) : Prop := IsMap D ∧ Maps.size D = t.length ∧ (∀ v, v < 256 → Maps.has D (klE (-1) v) = false) ∧
  ∀ (c v : Nat), c < 100000 → v < 256 → Maps.has D (klE c v) = decide ((c, v) ∈ t) ∧ ((c, v) ∈ t → D.atKey (klE c v) (.lit (.int .i64 0)) = .lit (.int .i64 ((cl + 2 + t.idxOf (c, v) : Nat) : Int)))
theorem EMap.nil (cl : Nat) : EMap (.map []) cl [] := ⟨⟨[], rfl⟩, rfl, fun v _ => rfl, fun c v _ _ => ⟨by simp [Maps.has_eq], fun h => by simp at h⟩⟩
theorem EMap.put {D : DataW Unit} {cl : Nat} {t : List (Nat × Nat)} (h : EMap D cl t) (ht : Tidy D) {c v : Nat} (hc : c < 100000) (hv : v < 256) (hn : (c, v) ∉ t) : EMap (D.put (klE c v) (.lit (.int .i64 ((cl + 2 + t.length : Nat) : Int)))) cl (t ++ [(c, v)]) := by
  obtain ⟨hm, hs, h0, hh⟩ := h
  refine ⟨hm.put _ _, ?_, fun v' hv' => ?_, fun c' v' hc' hv' => ?_⟩
  · rw [Maps.size_put ht, (hh c v hc hv).1, hs]
    simp [hn]
  · rw [Maps.has_put_other (fun e => by have := (klE_inj (by unfold In64'; omega) hv' (by unfold In64'; omega) hv e).1; omega)]
    exact h0 v' hv'
  · by_cases e : c' = c ∧ v' = v
    · obtain ⟨rfl, rfl⟩ := e
      refine ⟨by rw [Maps.has_put_same hm (klE_key _ _)]; simp, fun _ => ?_⟩
      rw [Maps.atKey_put_same hm (klE_key _ _), List.idxOf_append, if_neg hn]
      simp
    · have ek : klE c' v' ≠ klE c v := fun h => e (by have := klE_inj (by unfold In64'; omega) hv' (by unfold In64'; omega) hv h; omega)
      obtain ⟨h1, h2⟩ := hh c' v' hc' hv'
      have e' : ¬ ((c', v') = (c, v)) := fun h => e (by injection h with h1 h2; exact ⟨h1, h2⟩)
      refine ⟨?_, fun hm2 => ?_⟩
      · rw [Maps.has_put_other ek, h1]
        have : ((c', v') ∈ t ++ [(c, v)]) ↔ ((c', v') ∈ t) := by rw [List.mem_append, List.mem_singleton]; exact ⟨fun h => h.resolve_right e', .inl⟩
        simp only [this]
      · have hq2 : (c', v') ∈ t := by
          rcases List.mem_append.1 hm2 with h | h
          · exact h
          · exact absurd (List.mem_singleton.1 h) e'
        rw [Maps.atKey_put_other ek, h2 hq2, List.idxOf_append, if_pos hq2]

/-! ### What is written -/
/-- A writer: bits, a code's bits, the number made next, the rows, is the next code the first one. -/
structure Ez where
  bits : List Nat
  wd : Nat
  nx : Nat
  tab : List (Nat × Nat)
  first : Bool
def Ez.put (s : Ez) (c : Nat) : Ez := ⟨s.bits ++ numB false (c : Nat) s.wd, if s.first = true then s.wd else growB s.wd s.nx, if s.first = true then s.nx else growN s.nx, s.tab, false⟩
def Ez.clear (s : Ez) (cl sz : Nat) : Ez := ⟨s.bits ++ numB false (cl : Nat) s.wd, sz + 1, cl + 2, [], true⟩
def Ez.add (s : Ez) (cl sz c v : Nat) : Ez :=
  if cl + 2 + s.tab.length < 4096 then ⟨(s.put c).bits, (s.put c).wd, (s.put c).nx, s.tab ++ [(c, v)], false⟩ else (s.put c).clear cl sz
/-- A value more. -/
def stepE (cl sz : Nat) (q : Ez × Option Nat) (v : Nat) : Ez × Option Nat :=
  match q.2 with
  | none => (q.1, some v)
  | some k => if (k, v) ∈ q.1.tab then (q.1, some (cl + 2 + q.1.tab.idxOf (k, v))) else (q.1.add cl sz k v, some v)
def ez0 (cl sz : Nat) : Ez := Ez.clear ⟨[], sz + 1, cl + 2, [], true⟩ cl sz
def runE (cl sz : Nat) (l : List Nat) : Ez × Option Nat := l.foldl (stepE cl sz) (ez0 cl sz, none)
def endE (cl : Nat) (q : Ez × Option Nat) : List Nat :=
  match q.2 with
  | none => q.1.bits ++ numB false ((cl + 1 : Nat) : Int) q.1.wd
  | some k => (q.1.put k).bits ++ numB false ((cl + 1 : Nat) : Int) (q.1.put k).wd
/-- The bytes that are written. -/
def lzwE (sz : Nat) (l : List Nat) : List Nat := (pack false (endE (2 ^ sz) (runE (2 ^ sz) sz l))).1
end Go.Proofs.Ytioghgnngdcicaa
