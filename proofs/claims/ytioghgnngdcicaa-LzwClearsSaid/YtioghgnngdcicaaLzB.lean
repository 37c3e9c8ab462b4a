/- A writer of GIF's codes that has no table yet: clear. -/
import Derived.Test.YtioghgnngdcicaaLzY
namespace Go.Proofs.Ytioghgnngdcicaa
set_option linter.unusedVariables false
open Go.ChangeShapes Go.WideShapes Go.ChangeAt Go.RowKit
open Go.Maps

/-- A writer, whatever its table. -/
structure Zb (x gl : Nat) (vm : Value) (ob : Option Nat) (sz : Nat) (s : Ez) (S : List Nat) (w : World) : Prop where
  box : w.heap[x]? = some (.cells #[.pointer (some ⟨gl, 0, none⟩), .int .i64 (sz : Nat), .int .i64 (s.wd : Nat), .int .i64 (s.nx : Nat), vm, .bool s.first] 79 (0, 0))
  wr : Wr 76 gl (.slice none 0 0) 0 (pack false s.bits).1 (pack false s.bits).2 ob w
  n1 : gl ≠ x
  n4 : ob ≠ some x
  s1 : x ∈ S
  s2 : gl ∈ S
  s4 : ∀ k, ob = some k → k ∈ S
  sl : ∀ k ∈ S, k < w.heap.size
section
variable {x gl : Nat} {vm : Value} {ob : Option Nat} {sz : Nat} {s : Ez} {S : List Nat} {w w' : World}
theorem Zb.below (h : Zb x gl vm ob sz s S w) (hb : Below w.heap.size w w') : Zb x gl vm ob sz s S w' := by
  have hc : Chg [] w w' := Chg.of_below hb
  exact ⟨hp_chg h.box hc (by simp), h.wr.chg hc (by simp) (by simp), h.n1, h.n4, h.s1, h.s2, h.s4, fun k hk => Nat.lt_of_lt_of_le (h.sl k hk) hb.size⟩
theorem Zb.put {ob' : Option Nat} {l : List Nat} (h : Zb x gl vm ob sz s S w) (hc : Chg (Near gl ob) w w') (hw : Wr 76 gl (.slice none 0 0) 0 (pack false l).1 (pack false l).2 ob' w') (hn : Next ob ob' w) :
    ∃ S', Zb x gl vm ob' sz ⟨l, s.wd, s.nx, s.tab, s.first⟩ S' w' ∧ More S S' w ∧ Chg S w w' := by
  have n1 := h.n1
  have n4 := h.n4
  have hN : ∀ k ∈ Near gl ob, k = gl ∨ ob = some k := fun k hk => by simp [Near] at hk; exact hk
  have hNS : ∀ k ∈ Near gl ob, k ∈ S := fun k hk => by rcases hN k hk with h1 | h1; rw [h1]; exact h.s2; exact h.s4 k h1
  have hob : ∀ k, ob' = some k → k ∈ S ∨ w.heap.size ≤ k := fun k hk => by
    rcases hn with h1 | ⟨q, h1, h2⟩
    · exact .inl (h.s4 k (h1.symm.trans hk))
    · rw [h1] at hk; injection hk with hk; exact .inr (by omega)
  have hxl := h.sl x h.s1
  have hwr := hw
  obtain ⟨⟨vo, _, hown, hvo⟩, _, _, _⟩ := hwr
  refine ⟨ob'.toList ++ S, ⟨hp_chg h.box hc (fun hm => by rcases hN _ hm with h9 | h9; exact n1 h9.symm; exact n4 h9), hw, n1, fun e => ?_, by simp [h.s1], by simp [h.s2], fun k hk => by simp [hk], fun k hk => ?_⟩, fun k hk => ?_, hc.mono hNS⟩
  · rcases hn with h3 | ⟨q, h3, h4⟩
    · exact n4 (h3.symm.trans e)
    · rw [h3] at e; injection e with e; omega
  · have h6 : ob' = some k ∨ k ∈ S := by simpa using hk
    rcases h6 with h6 | h6
    · exact (hown.lt k (hvo.trans h6)).2
    · exact Nat.lt_of_lt_of_le (h.sl k h6) hc.size
  · have h6 : ob' = some k ∨ k ∈ S := by simpa using hk
    rcases h6 with h6 | h6
    · exact hob k h6
    · exact .inl h6
theorem Zb.setX (h : Zb x gl vm ob sz s S w) {wd nx : Nat} {f : Bool} (hc : Chg [x] w w') (hb : w'.heap[x]? = some (.cells #[.pointer (some ⟨gl, 0, none⟩), .int .i64 (sz : Nat), .int .i64 (wd : Nat), .int .i64 (nx : Nat), vm, .bool f] 79 (0, 0))) :
    Zb x gl vm ob sz ⟨s.bits, wd, nx, s.tab, f⟩ S w' :=
  ⟨hb, h.wr.chg hc (by simpa using h.n1) (fun k hk hm => by simp at hm; rw [hm] at hk; exact h.n4 hk), h.n1, h.n4, h.s1, h.s2, h.s4, fun k hk => Nat.lt_of_lt_of_le (h.sl k hk) hc.size⟩
theorem Zb.newMap {cl : Nat} (h : Zb x gl vm ob sz s S w) {m' wd nx : Nat} {f : Bool} {T : List Nat} (hm' : w.heap.size ≤ m') (hc : Chg T w w') (hT : ∀ k ∈ T, k = x ∨ w.heap.size ≤ k) (hmp : w'.ownsMap Try.prog 81 (plainElem Try.prog 3) m' 0 (.map [] : DataW Unit))
    (hb : w'.heap[x]? = some (.cells #[.pointer (some ⟨gl, 0, none⟩), .int .i64 (sz : Nat), .int .i64 (wd : Nat), .int .i64 (nx : Nat), .map (some m'), .bool f] 79 (0, 0))) :
    ∃ S', Zm x gl m' ob sz cl ⟨s.bits, wd, nx, [], f⟩ S' w' ∧ More S S' w ∧ Chg S w w' := by
  have n1 := h.n1
  have n4 := h.n4
  have hgl := h.sl gl h.s2
  have hxl := h.sl x h.s1
  have hml := hmp.lt
  refine ⟨m' :: S, ⟨hb, h.wr.chg hc (fun hm => by rcases hT _ hm with h1 | h1; exact n1 h1; omega) (fun k hk hm => by rcases hT _ hm with h1 | h1; rw [h1] at hk; exact n4 hk; have := h.sl k (h.s4 k hk); omega), ⟨_, hmp, EMap.nil cl⟩, (fun y hy => by simp at hy), ⟨n1, by omega, by omega, n4, fun e => by have := h.sl m' (h.s4 m' e); omega⟩, by simp [h.s1], by simp [h.s2], by simp, fun k hk => by simp [h.s4 k hk], fun k hk => ?_⟩, fun k hk => ?_, ?_⟩
  · rcases List.mem_cons.1 hk with h1 | h1
    · rw [h1]; exact hml
    · exact Nat.lt_of_lt_of_le (h.sl k h1) hc.size
  · rcases List.mem_cons.1 hk with h1 | h1
    · exact .inr (by omega)
    · exact .inl h1
  · refine ⟨hc.os, hc.tape, hc.output, hc.size, fun k hk hn => hc.block k hk (fun hm => ?_)⟩
    rcases hT k hm with h1 | h1
    · exact hn (by rw [h1]; exact h.s1)
    · omega
end
set_option maxRecDepth 100000 in
set_option maxHeartbeats 2000000 in
theorem zclearB (x gl : Nat) (vm : Value) (hvm : vm = .map none ∨ ∃ m, vm = .map (some m)) (ob : Option Nat) (sz cl : Nat) (hcl : Hid (cl = 2 ^ sz)) (hs : sz ≤ 8) (hc256 : cl ≤ 256) (s : Ez) (S : List Nat) (hbl : s.bits.length ≤ 3900000) (hwd : s.wd ≤ 12) (w : World) (h : Zb x gl vm ob sz s S w) :
    Calls Try.prog 36 #[.pointer (some ⟨x, 0, none⟩)] w fun e w' => e = .returned (.tuple #[]) ∧ ZmP x gl sz cl (s.clear cl sz) S w w' := by
  obtain ⟨vq, rfl⟩ : ∃ vq, vm = .map vq := by
    rcases hvm with h | ⟨m, h⟩
    · exact ⟨_, h⟩
    · exact ⟨_, h⟩
  clear hvm
  have hb := h.box
  have c0 := hp_cell (j := 0) hb rfl
  have c1 := hp_cell (j := 1) hb rfl
  have c2 := hp_cell (j := 2) hb rfl
  have HZ := Lib.hid h
  have hwr := h.wr
  have hmm := @run_makeMap Try.prog
  clear hb h
  go_enter Try.func36, Try.ntmps36
  go_wp2_with fail
  go_still_tail 13, (by kernel_rfl)
  still_call (clear_s x 1 sz cl hs hcl _ (by exact c1))
  repeat still_step
  refine wpStill_nil ?_
  change wpList _ _ _ _ _ w.drew
  go_wp2_with fail
  refine (putL gl (.slice none 0 0) 0 (pack false s.bits).1 (pack false s.bits).2 ob (pack_bytes _ hbl) (cl : Nat) (by unfold In64; omega) s.wd (by omega) _ (hwr.chg ((Chg.refl [] w).drew) (by simp) (by simp))).mono ?_
  rintro e w1 ⟨rfl, hC, ob', hW, hN⟩
  rw [putsL_pack] at hW
  obtain ⟨S1, hZ1, hM1, hC1⟩ := (HZ.out.below (Below.refl _ w).drew).put hC hW hN
  have hb1 := hZ1.box
  have hM1' : More S S1 w := hM1
  have hC1' : Chg S w w1 := ((Chg.refl S w).drew).trans hC1
  have hW3 : W3 x 1 sz s.wd s.nx w1 := ⟨hp_cell (j := 1) hb1 rfl, hp_cell (j := 2) hb1 rfl, hp_cell (j := 3) hb1 rfl, fun j => hp_froz hb1 j⟩
  have HZ1 := Lib.hid hZ1
  have HM1 := Lib.hid hM1'
  have HC1 := Lib.hid hC1'
  have HB1 := Lib.hid hb1
  have HW3 := Lib.hid hW3
  clear hb1 hZ1 hM1 hC1 hM1' hC1' hC hW hN hwr c0 c1 c2 hW3
  go_wp2_with fail
  refine (reset_w x 1 sz s.wd s.nx hs _ HW3.out).mono ?_
  rintro e w2 ⟨rfl, hS⟩
  have hb2 := hS.blk _ _ HB1.out
  have hz2 := HZ1.out.setX (wd := sz + 1) (nx := 2 ^ sz + 2) (f := s.first) hS.chg hb2
  have j4 := hp_cell (j := 4) hz2.box rfl
  have j5 := hp_cell (j := 5) hz2.box rfl
  have jf := fun j => hp_froz hz2.box j
  have hx2 := hz2.sl x hz2.s1
  have HZ2 := Lib.hid hz2
  have HC2 := Lib.hid (HC1.out.trans2 hS.chg (fun k hk => by simp at hk; rw [hk]; exact .inl HZ.out.s1))
  have HB2 := Lib.hid hz2.box
  clear hS hb2 hz2
  go_wp2
  go_end0
  have hcx : Chg [x] w2 (((w2.setCell ⟨x, 4, none⟩ (.map (some w2.heap.size))).setCell ⟨x, 5, none⟩ (.bool true)).alloc (.map #[] 0)) := ((((Chg.refl _ w2).set (.inl (by simp)) _ _).set (.inl (by simp)) _ _).alloc _)
  have hsz2 : ((w2.setCell ⟨x, 4, none⟩ (.map (some w2.heap.size))).setCell ⟨x, 5, none⟩ (.bool true)).heap.size = w2.heap.size := by simp [World.setCell]
  have hmade := World.ownsMap_made (H := Unit) ((w2.setCell ⟨x, 4, none⟩ (.map (some w2.heap.size))).setCell ⟨x, 5, none⟩ (.bool true)) Try.prog 81 (plainElem Try.prog 3)
  rw [hsz2] at hmade
  obtain ⟨S3, hZ3, hM3, hC3⟩ := HZ2.out.newMap (cl := cl) (wd := sz + 1) (nx := 2 ^ sz + 2) (f := true) (Nat.le_refl _) hcx (by simp) hmade (hp_alloc _ (heap_set (heap_set HB2.out)))
  have e1 : s.clear cl sz = ⟨s.bits ++ numB false (cl : Nat) s.wd, sz + 1, 2 ^ sz + 2, [], true⟩ := by unfold Ez.clear; rw [← hcl.out]
  rw [e1]
  exact ⟨rfl, _, ob', S3, hZ3, HM1.out.trans hM3 HC2.out.size, HC2.out.trans2 hC3 HM1.out⟩
end Go.Proofs.Ytioghgnngdcicaa
