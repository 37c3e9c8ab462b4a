/- A writer of GIF's codes in memory; put, clear. -/
import Derived.Test.YtioghgnngdcicaaLzK
namespace Go.Proofs.Ytioghgnngdcicaa
set_option linter.unusedVariables false
open Go.ChangeShapes Go.WideShapes Go.ChangeAt Go.RowKit
open Go.Maps

theorem map_chg {P : Program} {k : TypeId} {R : Value → Option (DataW Unit × List MemPlace)} {w w' : World} {b n : Nat} {D : DataW Unit} {S : List Nat} (h : w.ownsMap P k R b n D) (hc : Chg S w w') (hb : b ∉ S) : w'.ownsMap P k R b n D := by
  obtain ⟨es, clock, h1, h2, h3, h4⟩ := h
  exact ⟨es, clock, hp_chg h1 hc hb, h2, h3, h4⟩
/-- A writer lies in memory. -/
structure Zm (x gl m : Nat) (ob : Option Nat) (sz cl : Nat) (s : Ez) (S : List Nat) (w : World) : Prop where
  box : w.heap[x]? = some (.cells #[.pointer (some ⟨gl, 0, none⟩), .int .i64 (sz : Nat), .int .i64 (s.wd : Nat), .int .i64 (s.nx : Nat), .map (some m), .bool s.first] 79 (0, 0))
  wr : Wr 76 gl (.slice none 0 0) 0 (pack false s.bits).1 (pack false s.bits).2 ob w
  map : ∃ D : DataW Unit, w.ownsMap Try.prog 81 (plainElem Try.prog 3) m s.tab.length D ∧ EMap D cl s.tab
  twf : TabWf s.tab
  ne : gl ≠ x ∧ m ≠ x ∧ m ≠ gl ∧ ob ≠ some x ∧ ob ≠ some m
  s1 : x ∈ S
  s2 : gl ∈ S
  s3 : m ∈ S
  s4 : ∀ k, ob = some k → k ∈ S
  sl : ∀ k ∈ S, k < w.heap.size
section
variable {x gl m : Nat} {ob : Option Nat} {sz cl : Nat} {s : Ez} {S : List Nat} {w w' : World}
theorem Zm.below (h : Zm x gl m ob sz cl s S w) (hb : Below w.heap.size w w') : Zm x gl m ob sz cl s S w' := by
  have hc : Chg [] w w' := Chg.of_below hb
  obtain ⟨D, h1, h2⟩ := h.map
  exact ⟨hp_chg h.box hc (by simp), h.wr.chg hc (by simp) (by simp), ⟨D, map_chg h1 hc (by simp), h2⟩, h.twf, h.ne, h.s1, h.s2, h.s3, h.s4, fun k hk => Nat.lt_of_lt_of_le (h.sl k hk) hb.size⟩
/-- The bits go on. -/
theorem Zm.put {ob' : Option Nat} {l : List Nat} (h : Zm x gl m ob sz cl s S w) (hc : Chg (Near gl ob) w w') (hw : Wr 76 gl (.slice none 0 0) 0 (pack false l).1 (pack false l).2 ob' w') (hn : Next ob ob' w) :
    ∃ S', Zm x gl m ob' sz cl ⟨l, s.wd, s.nx, s.tab, s.first⟩ S' w' ∧ More S S' w ∧ Chg S w w' := by
  obtain ⟨n1, n2, n3, n4, n5⟩ := h.ne
  have hN : ∀ k ∈ Near gl ob, k = gl ∨ ob = some k := fun k hk => by simp [Near] at hk; exact hk
  have hNS : ∀ k ∈ Near gl ob, k ∈ S := fun k hk => by rcases hN k hk with h1 | h1; rw [h1]; exact h.s2; exact h.s4 k h1
  have hob : ∀ k, ob' = some k → k ∈ S ∨ w.heap.size ≤ k := fun k hk => by
    rcases hn with h1 | ⟨q, h1, h2⟩
    · exact .inl (h.s4 k (h1.symm.trans hk))
    · rw [h1] at hk; injection hk with hk; exact .inr (by omega)
  have hxl := h.sl x h.s1
  have hml := h.sl m h.s3
  obtain ⟨D, h1, h2⟩ := h.map
  have hwr := hw
  obtain ⟨⟨vo, _, hown, hvo⟩, _, _, _⟩ := hwr
  refine ⟨ob'.toList ++ S, ⟨hp_chg h.box hc (fun hm => by rcases hN _ hm with h9 | h9; exact n1 h9.symm; exact n4 h9), hw, ⟨D, map_chg h1 hc (fun hm => by rcases hN _ hm with h9 | h9; exact n3 h9; exact n5 h9), h2⟩, h.twf, ⟨n1, n2, n3, fun e => ?_, fun e => ?_⟩, by simp [h.s1], by simp [h.s2], by simp [h.s3], fun k hk => by simp [hk], fun k hk => ?_⟩, fun k hk => ?_, hc.mono hNS⟩
  · rcases hn with h3 | ⟨q, h3, h4⟩
    · exact n4 (h3.symm.trans e)
    · rw [h3] at e; injection e with e; omega
  · rcases hn with h3 | ⟨q, h3, h4⟩
    · exact n5 (h3.symm.trans e)
    · rw [h3] at e; injection e with e; omega
  · have h6 : ob' = some k ∨ k ∈ S := by simpa using hk
    rcases h6 with h6 | h6
    · exact (hown.lt k (hvo.trans h6)).2
    · exact Nat.lt_of_lt_of_le (h.sl k h6) hc.size
  · have h6 : ob' = some k ∨ k ∈ S := by simpa using hk
    rcases h6 with h6 | h6
    · exact hob k h6
    · exact .inl h6
/-- The writer's own block changes. -/
theorem Zm.setX (h : Zm x gl m ob sz cl s S w) {wd nx : Nat} {f : Bool} (hc : Chg [x] w w') (hb : w'.heap[x]? = some (.cells #[.pointer (some ⟨gl, 0, none⟩), .int .i64 (sz : Nat), .int .i64 (wd : Nat), .int .i64 (nx : Nat), .map (some m), .bool f] 79 (0, 0))) :
    Zm x gl m ob sz cl ⟨s.bits, wd, nx, s.tab, f⟩ S w' := by
  obtain ⟨n1, n2, n3, n4, n5⟩ := h.ne
  obtain ⟨D, h1, h2⟩ := h.map
  exact ⟨hb, h.wr.chg hc (by simpa using n1) (fun k hk hm => by simp at hm; rw [hm] at hk; exact n4 hk), ⟨D, map_chg h1 hc (by simpa using n2), h2⟩, h.twf, h.ne, h.s1, h.s2, h.s3, h.s4, fun k hk => Nat.lt_of_lt_of_le (h.sl k hk) hc.size⟩
/-- A table anew. -/
theorem Zm.newMap (h : Zm x gl m ob sz cl s S w) {m' wd nx : Nat} {f : Bool} {T : List Nat} (hm' : w.heap.size ≤ m') (hc : Chg T w w') (hT : ∀ k ∈ T, k = x ∨ w.heap.size ≤ k) (hmp : w'.ownsMap Try.prog 81 (plainElem Try.prog 3) m' 0 (.map [] : DataW Unit))
    (hb : w'.heap[x]? = some (.cells #[.pointer (some ⟨gl, 0, none⟩), .int .i64 (sz : Nat), .int .i64 (wd : Nat), .int .i64 (nx : Nat), .map (some m'), .bool f] 79 (0, 0))) :
    ∃ S', Zm x gl m' ob sz cl ⟨s.bits, wd, nx, [], f⟩ S' w' ∧ More S S' w ∧ Chg S w w' := by
  obtain ⟨n1, n2, n3, n4, n5⟩ := h.ne
  have hgl := h.sl gl h.s2
  have hxl := h.sl x h.s1
  have hml := hmp.lt
  refine ⟨m' :: S, ⟨hb, h.wr.chg hc (fun hm => by rcases hT _ hm with h1 | h1; exact n1 h1; omega) (fun k hk hm => by rcases hT _ hm with h1 | h1; rw [h1] at hk; exact n4 hk; have := h.sl k (h.s4 k hk); omega), ⟨_, hmp, EMap.nil cl⟩, (fun y hy => by simp at hy), ⟨n1, by omega, by omega, n4, fun e => by have := h.sl m' (h.s4 m' e); omega⟩, by simp [h.s1], by simp [h.s2], by simp, fun k hk => by simp [h.s4 k hk], fun k hk => ?_⟩, fun k hk => ?_, ?_⟩
  · rcases List.mem_cons.1 hk with h1 | h1
    · rw [h1]; exact hml
    · exact Nat.lt_of_lt_of_le (h.sl k h1) hc.size
  · rcases List.mem_cons.1 hk with h1 | h1
    · exact .inr (by omega)
    · exact .inl h1
  · refine ⟨hc.os, hc.tape, hc.output, hc.size, fun k hk hn => hc.block k hk (fun hm => ?_)⟩
    rcases hT k hm with h1 | h1
    · exact hn (by rw [h1]; exact h.s1)
    · omega
end
end Go.Proofs.Ytioghgnngdcicaa
