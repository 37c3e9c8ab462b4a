/- bits.Guard, by the closure's contract; worlds that turn in few blocks. -/
import Derived.Test.YthcijcdeecmnmaaMem
import Derived.Test.YthcijcdeecmnmaaProg
import Derived.Defers
import Derived.Recover
import Derived.WalkLawsBesides
namespace Go.Proofs.Ythcijcdeecmnmaa
set_option linter.unusedVariables false
open Go.RowKit

theorem catch_panicking (p : Addr) (x : Bool) (u : TypeId) (pv : Value) (older : List PanicEntry) (w : World) (hc : w.cell? p = some (.bool x)) (hz : w.frozen? p = false) :
    CallsD Try.prog 42 #[.pointer (some p)] (.panicking ({ v := .iface u pv, recovered := false } :: older)) w fun e u' w' =>
      e = .returned (.tuple #[]) ∧ u' = .panicking ({ v := .iface u pv, recovered := true } :: older) ∧ w' = w.setCell p (.bool false) := by
  refine callsD_of_wpS Try.func42 rfl fun c₀ cs hu => ?_
  apply wpS_seq
  apply wpS_region
  simp [wpOpsS, go_sem, recoverD, hu, Try.ntmps42, Exit.thenS]
  refine wpS_cond (t := true) (by simp [Act.eval, Array.replicate]) ?_
  simp only [if_true]
  apply wpS_region
  simp [wpOpsS, go_sem, hc, hz, bodyPostS, results, Try.results42]

theorem catch_idle (p : Addr) (w : World) :
    CallsD Try.prog 42 #[.pointer (some p)] .returning w fun e u' w' => e = .returned (.tuple #[]) ∧ u' = .returning ∧ w' = w := by
  refine callsD_of_wpS Try.func42 rfl fun c₀ cs hu => ?_
  apply wpS_seq
  apply wpS_region
  simp [wpOpsS, go_sem, recoverD, hu, Try.ntmps42, Exit.thenS]
  refine wpS_cond (t := false) (by simp [Act.eval, Array.replicate]) ?_
  simp only [Bool.false_eq_true, if_false]
  refine wpS_of_wp (wp_skip ?_)
  cases c₀
  simp_all [bodyPostS, results, Try.results42]

/-- k's body is entered with what it captured. -/
def Enters (k : FuncId) (caps : Array Value) : Prop := ∀ W : World, (callFunc k caps).run Try.prog W = .ok (.enter k caps) W
theorem guard_yes (k : FuncId) (caps : Array Value) (hent : Enters k caps) (w : World) (R : World → Prop)
    (hk : Calls Try.prog k caps (w.alloc (.cells #[.bool false] 4)) fun e w' => e = .returned (.tuple #[]) ∧ w'.heap[w.heap.size]? = some (.cells #[.bool false] 4 (0, 0)) ∧ R w') :
    Calls Try.prog 11 #[.func (.func k) #[] caps] w fun e w' => e = .returned (.bool true) ∧ ∃ w1, R w1 ∧ w1.heap[w.heap.size]? = some (.cells #[.bool false] 4 (0, 0)) ∧ w' = w1.setCell ⟨w.heap.size, 0, none⟩ (.bool true) := by
  have hmf : ∀ (fn : Fn) (first cap : Array Value) (w : World), (Instr.makeFunc fn first cap).run Try.prog w = .ok (.func fn first cap) w := fun _ _ _ _ => rfl
  have hnil : ∀ w : World, (binOp BinOp.eql 1 (.func (.func k) #[] caps) .nilFunc).run Try.prog w = .ok (.bool false) w := fun _ => by kernel_rfl
  go_enter_defers Try.func11, Try.ntmps11
  go_wp2_with fail
  rw [hent, Oper.upon_enter]
  refine hk.mono ?_
  rintro e w1 ⟨rfl, hb, hR⟩
  have h0 : w1.cell? ⟨w.heap.size, 0, none⟩ = some (.bool false) := by simp [World.cell?, hb]
  have hf : ∀ j, w1.frozen? ⟨w.heap.size, j, none⟩ = false := fun j => by simp [World.frozen?, hb]
  have hl : w.heap.size < w1.heap.size := (Array.getElem?_eq_some_iff.1 hb).1
  have he := (Array.getElem?_eq_some_iff.1 hb).2
  have h1 : (w1.setCell ⟨w.heap.size, 0, none⟩ (.bool true)).cell? ⟨w.heap.size, 0, none⟩ = some (.bool true) := by simp [World.cell?, World.setCell, hl, he, Array.getElem_modify]
  go_wp2
  refine leaves_cons (f := 42) (args := #[.pointer (some ⟨w.heap.size, 0, none⟩)]) (by simp) (by simp [go_sem]) ?_
  refine (catch_idle ⟨w.heap.size, 0, none⟩ _).mono ?_
  rintro e u' w'' ⟨rfl, rfl, rfl⟩
  refine ⟨.bool true, ?_, rfl, w1, hR, hb, rfl⟩
  simp [results, Try.results11, go_sem, h1]
theorem guard_no (k : FuncId) (caps : Array Value) (hent : Enters k caps) (w : World) (R : World → Prop)
    (hk : Calls Try.prog k caps (w.alloc (.cells #[.bool false] 4)) fun e w' => (∃ u pv, e = .panicked [{ v := .iface u pv, recovered := false }]) ∧ w'.heap[w.heap.size]? = some (.cells #[.bool false] 4 (0, 0)) ∧ R w') :
    Calls Try.prog 11 #[.func (.func k) #[] caps] w fun e w' => e = .returned (.bool false) ∧ ∃ w1, R w1 ∧ w1.heap[w.heap.size]? = some (.cells #[.bool false] 4 (0, 0)) ∧ w' = w1.setCell ⟨w.heap.size, 0, none⟩ (.bool false) := by
  have hmf : ∀ (fn : Fn) (first cap : Array Value) (w : World), (Instr.makeFunc fn first cap).run Try.prog w = .ok (.func fn first cap) w := fun _ _ _ _ => rfl
  have hnil : ∀ w : World, (binOp BinOp.eql 1 (.func (.func k) #[] caps) .nilFunc).run Try.prog w = .ok (.bool false) w := fun _ => by kernel_rfl
  go_enter_defers Try.func11, Try.ntmps11
  go_wp2_with fail
  rw [hent, Oper.upon_enter]
  refine hk.mono ?_
  rintro e w1 ⟨⟨u, pv, rfl⟩, hb, hR⟩
  have h0 : w1.cell? ⟨w.heap.size, 0, none⟩ = some (.bool false) := by simp [World.cell?, hb]
  have hf : ∀ j, w1.frozen? ⟨w.heap.size, j, none⟩ = false := fun j => by simp [World.frozen?, hb]
  have hl : w.heap.size < w1.heap.size := (Array.getElem?_eq_some_iff.1 hb).1
  have he := (Array.getElem?_eq_some_iff.1 hb).2
  have h1 : (w1.setCell ⟨w.heap.size, 0, none⟩ (.bool false)).cell? ⟨w.heap.size, 0, none⟩ = some (.bool false) := by simp [World.cell?, World.setCell, hl, he, Array.getElem_modify]
  go_wp2
  refine leaves_cons (f := 42) (args := #[.pointer (some ⟨w.heap.size, 0, none⟩)]) (by simp) (by simp [go_sem]) ?_
  refine (catch_panicking ⟨w.heap.size, 0, none⟩ false u pv [] _ h0 (hf 0)).mono ?_
  rintro e u' w'' ⟨rfl, rfl, rfl⟩
  simp [Leaves, settle, results, Try.results11, go_sem, h1]
  exact ⟨w1, hR, hb, rfl⟩
end Go.Proofs.Ythcijcdeecmnmaa
