/- lzw.tried: what a closure broke with. -/
import Derived.Test.YtioghgnngdcicaaLzS
namespace Go.Proofs.Ytioghgnngdcicaa
set_option linter.unusedVariables false
open Go.ChangeShapes Go.WideShapes Go.ChangeAt Go.RowKit

theorem ta1 (v : Value) (w : World) : (Instr.typeAssert (.iface 24 v) 20 87 true).run Try.prog w = .ok (.tuple #[.agg #[], .bool false]) w := by kernel_rfl
theorem ta2 (v : Value) (w : World) : (Instr.typeAssert (.iface 24 v) 20 24 true).run Try.prog w = .ok (.tuple #[v, .bool true]) w := by kernel_rfl
theorem ta3 (v : Value) (w : World) : (Instr.typeAssert (.iface 87 v) 20 87 true).run Try.prog w = .ok (.tuple #[v, .bool true]) w := by kernel_rfl
set_option maxRecDepth 100000 in
theorem tcatch_idle (p : Addr) (w : World) :
    CallsD Try.prog 44 #[.pointer (some p)] .returning w fun e u' w' => e = .returned (.tuple #[]) ∧ u' = .returning ∧ w' = w := by
  refine callsD_of_wpS Try.func44 rfl fun c₀ cs hu => ?_
  apply wpS_seq
  apply wpS_region
  simp [wpOpsS, go_sem, recoverD, hu, Try.ntmps44, Exit.thenS]
  refine wpS_of_wp ?_
  simp only [Array.replicate, Array.append, List.replicate]
  go_wp2
  cases c₀
  simp_all [bodyPostS, results, Try.results44]
set_option maxRecDepth 100000 in
theorem tcatch_err (p : Addr) (x : Value) (k : Int) (older : List PanicEntry) (w : World) (hc : w.cell? p = some x) (hz : w.frozen? p = false) :
    CallsD Try.prog 44 #[.pointer (some p)] (.panicking ({ v := .iface 24 (.int .i64 k), recovered := false } :: older)) w fun e u' w' =>
      e = .returned (.tuple #[]) ∧ u' = .panicking ({ v := .iface 24 (.int .i64 k), recovered := true } :: older) ∧ w' = w.setCell p (.int .i64 k) := by
  have t1 := ta1
  have t2 := ta2
  refine callsD_of_wpS Try.func44 rfl fun c₀ cs hu => ?_
  apply wpS_seq
  apply wpS_region
  simp [wpOpsS, go_sem, recoverD, hu, Try.ntmps44, Exit.thenS]
  refine wpS_of_wp ?_
  simp only [Array.replicate, Array.append, List.replicate]
  go_wp2
  cases c₀
  simp_all [bodyPostS, results, Try.results44]
set_option maxRecDepth 100000 in
theorem tcatch_end (B : Nat) (x : Value) (older : List PanicEntry) (w : World) (hc : w.cell? ⟨B, 0, none⟩ = some x) (hz : ∀ j, w.frozen? ⟨B, j, none⟩ = false) :
    CallsD Try.prog 44 #[.pointer (some ⟨B, 0, none⟩)] (.panicking ({ v := .iface 87 (.agg #[]), recovered := false } :: older)) w fun e u' w' =>
      e = .returned (.tuple #[]) ∧ u' = .panicking ({ v := .iface 87 (.agg #[]), recovered := true } :: older) ∧ w' = (w.setCell ⟨B, 0, none⟩ (.int .i64 2)).alloc (.cells #[] 87) := by
  have t1 := ta3
  have hB := lt_of_cell hc
  simp only at hB
  refine callsD_of_wpS Try.func44 rfl fun c₀ cs hu => ?_
  apply wpS_seq
  apply wpS_region
  simp [wpOpsS, go_sem, recoverD, hu, Try.ntmps44, Exit.thenS]
  refine wpS_of_wp ?_
  simp only [Array.replicate, Array.append, List.replicate]
  go_wp2
  cases c₀
  simp_all [bodyPostS, results, Try.results44]
/-- k's body is entered with what it captured. -/
def EntersL (k : FuncId) (caps : Array Value) : Prop := ∀ W : World, (callFunc k caps).run Try.prog W = .ok (.enter k caps) W
set_option maxRecDepth 100000 in
set_option maxHeartbeats 1000000 in
/-- What a closure broke with, if it did: R: what it leaves where it did not, Q: where it did. -/
theorem tried_any (r : List Nat × Nat) (k : FuncId) (caps : Array Value) (hent : EntersL k caps) (w : World) (R Q : World → Prop)
    (hk : Calls Try.prog k caps (w.alloc (.cells #[.int .i64 0] 24)) fun e w' => w'.heap[w.heap.size]? = some (.cells #[.int .i64 0] 24 (0, 0)) ∧ ((e = .returned (.tuple #[]) ∧ R w') ∨ (Thrown e r ∧ Q w'))) :
    Calls Try.prog 32 #[.func (.func k) #[] caps] w fun e w' => ∃ (q : Nat) (w1 : World), e = .returned (.int .i64 (q : Nat)) ∧ w1.heap[w.heap.size]? = some (.cells #[.int .i64 0] 24 (0, 0)) ∧
      (w' = w1.setCell ⟨w.heap.size, 0, none⟩ (.int .i64 (q : Nat)) ∨ w' = (w1.setCell ⟨w.heap.size, 0, none⟩ (.int .i64 (q : Nat))).alloc (.cells #[] 87)) ∧ ((q = 0 ∧ R w1) ∨ (0 < q ∧ r = ([], q) ∧ Q w1)) := by
  have hmf : ∀ (fn : Fn) (first cap : Array Value) (w : World), (Instr.makeFunc fn first cap).run Try.prog w = .ok (.func fn first cap) w := fun _ _ _ _ => rfl
  go_enter_defers Try.func32, Try.ntmps32
  go_wp2_with fail
  rw [hent, Oper.upon_enter]
  refine hk.mono ?_
  rintro e w1 ⟨hb, hd⟩
  have h0 : w1.cell? ⟨w.heap.size, 0, none⟩ = some (.int .i64 0) := by simp [World.cell?, hb]
  have hf : ∀ j, w1.frozen? ⟨w.heap.size, j, none⟩ = false := fun j => by simp [World.frozen?, hb]
  have hl : w.heap.size < w1.heap.size := (Array.getElem?_eq_some_iff.1 hb).1
  have he := (Array.getElem?_eq_some_iff.1 hb).2
  have h1 : ∀ q : Int, (w1.setCell ⟨w.heap.size, 0, none⟩ (.int .i64 q)).cell? ⟨w.heap.size, 0, none⟩ = some (.int .i64 q) := fun q => by simp [World.cell?, World.setCell, hl, he, Array.getElem_modify]
  have h2 : ((w1.setCell ⟨w.heap.size, 0, none⟩ (.int .i64 2)).alloc (.cells #[] 87)).cell? ⟨w.heap.size, 0, none⟩ = some (.int .i64 2) := by
    rw [World.cell?_alloc_lt _ _ _ (by simp [World.setCell]; exact hl)]
    exact h1 2
  have HB := Lib.hid hb
  have HH1 := Lib.hid h1
  have HH2 := Lib.hid h2
  clear hb he h1 h2 hk
  rcases hd with ⟨rfl, hR⟩ | ⟨⟨rfl, rfl⟩ | ⟨q, rfl, rfl, hq⟩, hQ⟩
  · go_wp2
    refine leaves_cons (f := 44) (args := #[.pointer (some ⟨w.heap.size, 0, none⟩)]) (by simp) (by simp [go_sem]) ?_
    refine (tcatch_idle ⟨w.heap.size, 0, none⟩ _).mono ?_
    rintro e u' w'' ⟨rfl, rfl, rfl⟩
    refine ⟨.int .i64 0, ?_, ?_⟩
    · simp [results, Try.results32, go_sem, HH1.out 0]
    · exact ⟨0, w1, rfl, HB.out, .inl rfl, .inl ⟨rfl, hR⟩⟩
  · go_wp2
    refine leaves_cons (f := 44) (args := #[.pointer (some ⟨w.heap.size, 0, none⟩)]) (by simp) (by simp [go_sem]) ?_
    refine (tcatch_end w.heap.size _ [] _ h0 hf).mono ?_
    rintro e u' w'' ⟨rfl, rfl, rfl⟩
    simp [Leaves, settle, results, Try.results32, go_sem, HH2.out]
    exact ⟨2, rfl, w1, HB.out, .inr rfl, .inr ⟨by omega, rfl, hQ⟩⟩
  · go_wp2
    refine leaves_cons (f := 44) (args := #[.pointer (some ⟨w.heap.size, 0, none⟩)]) (by simp) (by simp [go_sem]) ?_
    refine (tcatch_err ⟨w.heap.size, 0, none⟩ _ q [] _ h0 (hf 0)).mono ?_
    rintro e u' w'' ⟨rfl, rfl, rfl⟩
    simp [Leaves, settle, results, Try.results32, go_sem, HH1.out]
    exact ⟨q, rfl, w1, HB.out, .inl rfl, .inr ⟨hq, rfl, hQ⟩⟩
end Go.Proofs.Ytioghgnngdcicaa
