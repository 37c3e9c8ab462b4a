/- A writer of GIF's codes: put, clear, add. A writer of GIF's codes that has no table yet: clear. lzw.Write. lzw.Write: what may not be written. Layer 7's awake. LzwReads: the walk. -/
import Derived.Test.YtlgoohhfpmomhaaM11
import Derived.Deep.LoopGhost
namespace Go.Proofs.Ytlgoohhfpmomhaa
set_option maxRecDepth 100000
set_option linter.unusedVariables false
open Go.ChangeShapes Go.WideShapes Go.ChangeAt Go.RowKit
open Go.Maps

def ZmP (x gl : Nat) (sz cl : Nat) (s : Ez) (S : List Nat) (w w' : World) : Prop := ∃ m ob S', Zm x gl m ob sz cl s S' w' ∧ More S S' w ∧ Chg S w w'
theorem pack_bytes (l : List Nat) (h : l.length ≤ 3900000) : (pack false l).1.length ≤ 500000 := by rw [pack_len]; omega
set_option maxRecDepth 100000 in
set_option maxHeartbeats 2000000 in
theorem zput (x gl m : Nat) (ob : Option Nat) (sz cl : Nat) (s : Ez) (S : List Nat) (c : Nat) (hc : c < 5000) (hbl : s.bits.length ≤ 3900000) (hwd : s.wd ≤ 12) (hnx : s.nx ≤ 4096) (w : World) (h : Zm x gl m ob sz cl s S w) :
    Calls Try.prog 41 #[.pointer (some ⟨x, 0, none⟩), .int .i64 (c : Nat)] w fun e w' => e = .returned (.tuple #[]) ∧ ZmP x gl sz cl (s.put c) S w w' := by
  have hb := h.box
  have c0 := hp_cell (j := 0) hb rfl
  have c2 := hp_cell (j := 2) hb rfl
  have HZ := Lib.hid h
  have hwr := h.wr
  clear hb h
  go_enter Try.func41, Try.ntmps41
  go_wp2_with fail
  go_still_tail 10, (by kernel_rfl)
  change wpList _ _ _ _ _ w.drew
  go_wp2_with fail
  refine (putL gl (.slice none 0 0) 0 (pack false s.bits).1 (pack false s.bits).2 ob (pack_bytes _ hbl) (c : Nat) (by unfold In64; omega) s.wd (by omega) _ (hwr.chg ((Chg.refl [] w).drew) (by simp) (by simp))).mono ?_
  rintro e w1 ⟨rfl, hC, ob', hW, hN⟩
  rw [putsL_pack] at hW
  obtain ⟨S1, hZ1, hM1, hC1⟩ := (HZ.out.below (Below.refl _ w).drew).put hC hW hN
  have hb1 := hZ1.box
  have k1 := hp_cell (j := 1) hb1 rfl
  have k2 := hp_cell (j := 2) hb1 rfl
  have k3 := hp_cell (j := 3) hb1 rfl
  have k5 := hp_cell (j := 5) hb1 rfl
  have kf := fun j => hp_froz hb1 j
  have hM1' : More S S1 w := hM1
  have hC1' : Chg S w w1 := ((Chg.refl S w).drew).trans hC1
  have HZ1 := Lib.hid hZ1
  have HM1 := Lib.hid hM1'
  have HC1 := Lib.hid hC1'
  have HB1 := Lib.hid hb1
  clear hb1 hZ1 hM1 hC1 hM1' hC1' hC hW hN hwr c0 c2
  cases hf : s.first with
  | true =>
    rw [hf] at k5
    go_wp2
    go_end0
    have hcx : Chg [x] w1 (w1.setCell ⟨x, 5, none⟩ (.bool false)) := (Chg.refl _ w1).set (.inl (by simp)) _ _
    have hz := HZ1.out.setX (f := false) hcx (heap_set HB1.out)
    have e1 : s.put c = ⟨s.bits ++ numB false (c : Nat) s.wd, s.wd, s.nx, s.tab, false⟩ := by unfold Ez.put; rw [hf]; rfl
    rw [e1]
    exact ⟨rfl, m, ob', S1, hz, HM1.out, HC1.out.trans2 hcx (fun k hk => by simp at hk; rw [hk]; exact .inl HZ.out.s1)⟩
  | false =>
    rw [hf] at k5
    have hW3 : W3 x 1 sz s.wd s.nx w1 := ⟨k1, k2, k3, kf⟩
    have HW3 := Lib.hid hW3
    clear hW3
    go_wp2_with fail
    refine (grow_w x 1 sz s.wd s.nx hwd hnx _ HW3.out).mono ?_
    rintro e w2 ⟨rfl, hS⟩
    have hb2 := hS.blk _ _ HB1.out
    have hz2 := HZ1.out.setX (wd := growB s.wd s.nx) (nx := growN s.nx) (f := s.first) hS.chg hb2
    have j5 : w2.cell? ⟨x, 5, none⟩ = some (.bool false) := by rw [← hf]; exact hp_cell (j := 5) hb2 rfl
    have jf := fun j => hp_froz hb2 j
    have HZ2 := Lib.hid hz2
    have HC2 := Lib.hid (HC1.out.trans2 hS.chg (fun k hk => by simp at hk; rw [hk]; exact .inl HZ.out.s1))
    have HB2 := Lib.hid hz2.box
    clear hS hb2 hz2 k1 k2 k3 k5 kf
    go_wp2
    go_end0
    have hcx : Chg [x] w2 (w2.setCell ⟨x, 5, none⟩ (.bool false)) := (Chg.refl _ w2).set (.inl (by simp)) _ _
    have hz := HZ2.out.setX (wd := growB s.wd s.nx) (nx := growN s.nx) (f := false) hcx (heap_set HB2.out)
    have e1 : s.put c = ⟨s.bits ++ numB false (c : Nat) s.wd, growB s.wd s.nx, growN s.nx, s.tab, false⟩ := by unfold Ez.put; rw [hf]; rfl
    rw [e1]
    exact ⟨rfl, m, ob', S1, hz, HM1.out, HC2.out.trans2 hcx (fun k hk => by simp at hk; rw [hk]; exact .inl HZ.out.s1)⟩
set_option maxRecDepth 100000 in
set_option maxHeartbeats 2000000 in
theorem zclear (x gl m : Nat) (ob : Option Nat) (sz cl : Nat) (hcl : Hid (cl = 2 ^ sz)) (hs : sz ≤ 8) (hc256 : cl ≤ 256) (s : Ez) (S : List Nat) (hbl : s.bits.length ≤ 3900000) (hwd : s.wd ≤ 12) (w : World) (h : Zm x gl m ob sz cl s S w) :
    Calls Try.prog 39 #[.pointer (some ⟨x, 0, none⟩)] w fun e w' => e = .returned (.tuple #[]) ∧ ZmP x gl sz cl (s.clear cl sz) S w w' := by
  have hb := h.box
  have c0 := hp_cell (j := 0) hb rfl
  have c1 := hp_cell (j := 1) hb rfl
  have c2 := hp_cell (j := 2) hb rfl
  have HZ := Lib.hid h
  have hwr := h.wr
  have hmm := @run_makeMap Try.prog
  clear hb h
  go_enter Try.func39, Try.ntmps39
  go_wp2_with fail
  go_still_tail 13, (by kernel_rfl)
  still_call (clear_s x 1 sz cl hs hcl _ (by exact c1))
  repeat still_step
  refine wpStill_nil ?_
  change wpList _ _ _ _ _ w.drew
  go_wp2_with fail
  refine (putL gl (.slice none 0 0) 0 (pack false s.bits).1 (pack false s.bits).2 ob (pack_bytes _ hbl) (cl : Nat) (by unfold In64; omega) s.wd (by omega) _ (hwr.chg ((Chg.refl [] w).drew) (by simp) (by simp))).mono ?_
  rintro e w1 ⟨rfl, hC, ob', hW, hN⟩
  rw [putsL_pack] at hW
  obtain ⟨S1, hZ1, hM1, hC1⟩ := (HZ.out.below (Below.refl _ w).drew).put hC hW hN
  have hb1 := hZ1.box
  have hM1' : More S S1 w := hM1
  have hC1' : Chg S w w1 := ((Chg.refl S w).drew).trans hC1
  have hW3 : W3 x 1 sz s.wd s.nx w1 := ⟨hp_cell (j := 1) hb1 rfl, hp_cell (j := 2) hb1 rfl, hp_cell (j := 3) hb1 rfl, fun j => hp_froz hb1 j⟩
  have HZ1 := Lib.hid hZ1
  have HM1 := Lib.hid hM1'
  have HC1 := Lib.hid hC1'
  have HB1 := Lib.hid hb1
  have HW3 := Lib.hid hW3
  clear hb1 hZ1 hM1 hC1 hM1' hC1' hC hW hN hwr c0 c1 c2 hW3
  go_wp2_with fail
  refine (reset_w x 1 sz s.wd s.nx hs _ HW3.out).mono ?_
  rintro e w2 ⟨rfl, hS⟩
  have hb2 := hS.blk _ _ HB1.out
  have hz2 := HZ1.out.setX (wd := sz + 1) (nx := 2 ^ sz + 2) (f := s.first) hS.chg hb2
  have j4 := hp_cell (j := 4) hz2.box rfl
  have j5 := hp_cell (j := 5) hz2.box rfl
  have jf := fun j => hp_froz hz2.box j
  have hx2 := hz2.sl x hz2.s1
  have HZ2 := Lib.hid hz2
  have HC2 := Lib.hid (HC1.out.trans2 hS.chg (fun k hk => by simp at hk; rw [hk]; exact .inl HZ.out.s1))
  have HB2 := Lib.hid hz2.box
  clear hS hb2 hz2
  go_wp2
  go_end0
  have hcx : Chg [x] w2 (((w2.setCell ⟨x, 4, none⟩ (.map (some w2.heap.size))).setCell ⟨x, 5, none⟩ (.bool true)).alloc (.map #[] 0)) := ((((Chg.refl _ w2).set (.inl (by simp)) _ _).set (.inl (by simp)) _ _).alloc _)
  have hsz2 : ((w2.setCell ⟨x, 4, none⟩ (.map (some w2.heap.size))).setCell ⟨x, 5, none⟩ (.bool true)).heap.size = w2.heap.size := by simp [World.setCell]
  have hmade := World.ownsMap_made (H := Unit) ((w2.setCell ⟨x, 4, none⟩ (.map (some w2.heap.size))).setCell ⟨x, 5, none⟩ (.bool true)) Try.prog 93 (plainElem Try.prog 3)
  rw [hsz2] at hmade
  obtain ⟨S3, hZ3, hM3, hC3⟩ := HZ2.out.newMap (wd := sz + 1) (nx := 2 ^ sz + 2) (f := true) (Nat.le_refl _) hcx (by simp) hmade (hp_alloc _ (heap_set (heap_set HB2.out)))
  have e1 : s.clear cl sz = ⟨s.bits ++ numB false (cl : Nat) s.wd, sz + 1, 2 ^ sz + 2, [], true⟩ := by unfold Ez.clear; rw [← hcl.out]
  rw [e1]
  exact ⟨rfl, _, ob', S3, hZ3, HM1.out.trans hM3 HC2.out.size, HC2.out.trans2 hC3 HM1.out⟩
theorem own_mapN {P : Program} {k : TypeId} {R : Value → Option (DataW Unit × List MemPlace)} {w : World} {b n n' : Nat} {D : DataW Unit} (h : n = n') (ho : w.ownsMap P k R b n D) : w.ownsMap P k R b n' D := by subst h; exact ho
theorem put_nx {s : Ez} (c : Nat) (h : s.nx ≤ 4096) : (s.put c).nx ≤ 4096 := by
  unfold Ez.put growN
  dsimp only
  split <;> (try split) <;> omega
theorem put_wd {s : Ez} (c : Nat) (h : s.wd ≤ 12) : (s.put c).wd ≤ 12 := by
  unfold Ez.put growB
  dsimp only
  split <;> (try split) <;> omega
theorem put_bits (s : Ez) (c : Nat) (h : s.wd ≤ 12) : (s.put c).bits.length ≤ s.bits.length + 12 := by
  show (s.bits ++ numB false (c : Nat) s.wd).length ≤ _
  rw [List.length_append, numB_len]
  omega
set_option maxRecDepth 100000 in
set_option maxHeartbeats 2000000 in
theorem zadd (x gl m : Nat) (ob : Option Nat) (sz cl : Nat) (hcl : Hid (cl = 2 ^ sz)) (hs : sz ≤ 8) (hc256 : cl ≤ 256) (s : Ez) (S : List Nat) (c v : Nat) (hc : c < 5000) (hv : v < 256) (hn : (c, v) ∉ s.tab) (hbl : s.bits.length ≤ 3800000) (hwd : s.wd ≤ 12) (hnx : s.nx ≤ 4096) (htl : s.tab.length ≤ 5000) (w : World) (h : Zm x gl m ob sz cl s S w) :
    Calls Try.prog 40 #[.pointer (some ⟨x, 0, none⟩), .int .i64 (c : Nat), .int .u8 (v : Nat)] w fun e w' => e = .returned (.tuple #[]) ∧ ZmP x gl sz cl (s.add cl sz c v) S w w' := by
  have HZ := Lib.hid h
  go_enter Try.func40, Try.ntmps40
  go_wp2_with fail
  refine (zput x gl m ob sz cl s S c hc (by omega) hwd hnx _ h).mono ?_
  rintro e w1 ⟨rfl, m1, ob1, S1, hZ1, hM1, hC1⟩
  have hb1 := hZ1.box
  obtain ⟨D, hmap, hE⟩ := hZ1.map
  have htab : (s.put c).tab = s.tab := rfl
  rw [htab] at hmap hE
  have k1 := hp_cell (j := 1) hb1 rfl
  have k4 := hp_cell (j := 4) hb1 rfl
  have hlen : ∀ n, (Builtin.len_ #[89] 3 #[.map (some m1)]).run Try.prog (w1.drewN n) = .ok (.int .i64 (s.tab.length : Nat)) (w1.drewN n) := fun n => by
    have := World.ownsMap.len (w := w1.drewN n) (t := 89) hmap Try.underlying89 3
    rw [this, hE.2.1]
  have hlen0 : ∀ n, (Builtin.len_ #[89] 3 #[.map (some m1)]).run Try.prog (w1.drewN n).drew = .ok (.int .i64 (s.tab.length : Nat)) (w1.drewN n).drew := fun n => hlen (n + 1)
  have HZ1 := Lib.hid hZ1
  have HM1 := Lib.hid hM1
  have HC1 := Lib.hid hC1
  have HMAP := Lib.hid hmap
  have HE := Lib.hid hE
  clear hb1 hZ1 hM1 hC1 hmap hE h htab
  go_wp2_with fail
  go_quiet ((go_at_call 43; exact Calls.quiet_of_same (clear_s x 1 sz cl hs hcl _ (by exact k1))))
  obtain ⟨wq, hwq⟩ : ∃ wq, wq = w1.drewN nq := ⟨_, rfl⟩
  have HZq : Hid (Zm x gl m1 ob1 sz cl (s.put c) S1 wq) := by rw [hwq]; exact Lib.hid (HZ1.out.below (below_drewN (Below.refl _ w1) nq))
  have HCq : Hid (Chg S w wq) := by rw [hwq]; exact Lib.hid (HC1.out.drewN nq)
  have hmq : wq.ownsMap Try.prog 93 (plainElem Try.prog 3) m1 s.tab.length D := by rw [hwq]; exact HMAP.out
  have hsq : Hid (wq.heap.size = w1.heap.size) := by rw [hwq]; exact Lib.hid rfl
  rw [← hwq]
  clear hwq k1 k4 hlen hlen0
  have q4 := hp_cell (j := 4) HZq.out.box rfl
  by_cases hfull : cl + 2 + s.tab.length < 4096
  · have d1 : decide ((cl : Int) + 2 + (s.tab.length : Int) < 4096) = true := by simp; omega
    have hkey := key_eV (c : Nat) v (by omega) hv
    obtain ⟨Wm, hrun, hown, hg⟩ := World.ownsMap.update (val := .int .i64 ((cl : Int) + 2 + (s.tab.length : Int))) hmq keyed81 Try.underlying89 (by unfold maxLen; omega) hkey (plainElem_int Try.underlying3 (WalkArith.wf_i64 (by omega)))
    simp only [eV] at hrun
    have hE2 := HE.out.put (World.ownsMap.tidy hmq keyed81) (c := c) (v := v) (by omega) hv hn
    have hcm : Chg [m1] wq Wm := Chg.grown hg (fun r hr => by injection hr with hr; simp [hr])
    obtain ⟨n1, n2, n3, n4, n5⟩ := HZq.out.ne
    have hZ2 : Zm x gl m1 ob1 sz cl (s.add cl sz c v) S1 Wm := by
      have e1 : s.add cl sz c v = ⟨(s.put c).bits, (s.put c).wd, (s.put c).nx, s.tab ++ [(c, v)], false⟩ := by unfold Ez.add; rw [if_pos hfull]
      rw [e1]
      refine ⟨hp_chg HZq.out.box hcm (by simpa using fun e => n2 e.symm), HZq.out.wr.chg hcm (by simpa using fun e => n3 e.symm) (fun k hk hm => by simp at hm; rw [hm] at hk; exact n5 hk), ⟨_, own_mapN (by simp) hown, by rw [show ((cl : Int) + 2 + (s.tab.length : Int)) = ((cl + 2 + s.tab.length : Nat) : Int) by omega]; exact hE2⟩, fun y hy => ?_, HZq.out.ne, HZq.out.s1, HZq.out.s2, HZq.out.s3, HZq.out.s4, fun k hk => Nat.lt_of_lt_of_le (HZq.out.sl k hk) hcm.size⟩
      rcases List.mem_append.1 hy with h1 | h1
      · exact HZq.out.twf y h1
      · rw [List.mem_singleton.1 h1]; exact ⟨by omega, hv⟩
    have HZ2 := Lib.hid hZ2
    have HC2 := Lib.hid (HCq.out.trans2 hcm (fun k hk => by simp at hk; rw [hk]; exact HM1.out m1 HZq.out.s3))
    have HRUN := Lib.hid hrun
    clear hZ2 hE2 hown hg hcm hmq hn hkey
    go_wp2
    refine bodyPost_ret (v := .tuple #[]) (by simp [results, Try.results40, go_sem]) rfl ?_
    exact ⟨rfl, m1, ob1, S1, HZ2.out, HM1.out, HC2.out⟩
  · have d1 : decide ((cl : Int) + 2 + (s.tab.length : Int) < 4096) = false := by simp; omega
    have hwd' := put_wd (s := s) c hwd
    have hbt := put_bits s c hwd
    have e1 : s.add cl sz c v = (s.put c).clear cl sz := by unfold Ez.add; rw [if_neg hfull]
    have E1 := Lib.hid e1
    clear e1
    have hq0 := HZq.out
    clear hmq
    go_wp2_with fail
    refine (zclear x gl m1 ob1 sz cl hcl hs hc256 (s.put c) S1 (by omega) hwd' _ hq0).mono ?_
    rintro e w3 ⟨rfl, m3, ob3, S3, hZ3, hM3, hC3⟩
    have HZ3 := Lib.hid hZ3
    have HM3 := Lib.hid (HM1.out.trans hM3 HCq.out.size)
    have HC3 := Lib.hid (HCq.out.trans2 hC3 (fun k hk => HM1.out k hk))
    clear hZ3 hM3 hC3 hq0
    go_wp2
    go_end0
    rw [E1.out]
    exact ⟨rfl, m3, ob3, S3, HZ3.out, HM3.out, HC3.out⟩
end Go.Proofs.Ytlgoohhfpmomhaa

namespace Go.Proofs.Ytlgoohhfpmomhaa
set_option maxRecDepth 100000
set_option linter.unusedVariables false
open Go.ChangeShapes Go.WideShapes Go.ChangeAt Go.RowKit
open Go.Maps

/-- A writer, whatever its table. -/
structure Zb (x gl : Nat) (vm : Value) (ob : Option Nat) (sz : Nat) (s : Ez) (S : List Nat) (w : World) : Prop where
  box : w.heap[x]? = some (.cells #[.pointer (some ⟨gl, 0, none⟩), .int .i64 (sz : Nat), .int .i64 (s.wd : Nat), .int .i64 (s.nx : Nat), vm, .bool s.first] 91 (0, 0))
  wr : Wr 86 gl (.slice none 0 0) 0 (pack false s.bits).1 (pack false s.bits).2 ob w
  n1 : gl ≠ x
  n4 : ob ≠ some x
  s1 : x ∈ S
  s2 : gl ∈ S
  s4 : ∀ k, ob = some k → k ∈ S
  sl : ∀ k ∈ S, k < w.heap.size
section
variable {x gl : Nat} {vm : Value} {ob : Option Nat} {sz : Nat} {s : Ez} {S : List Nat} {w w' : World}
theorem Zb.below (h : Zb x gl vm ob sz s S w) (hb : Below w.heap.size w w') : Zb x gl vm ob sz s S w' := by
  have hc : Chg [] w w' := Chg.of_below hb
  exact ⟨hp_chg h.box hc (by simp), h.wr.chg hc (by simp) (by simp), h.n1, h.n4, h.s1, h.s2, h.s4, fun k hk => Nat.lt_of_lt_of_le (h.sl k hk) hb.size⟩
theorem Zb.put {ob' : Option Nat} {l : List Nat} (h : Zb x gl vm ob sz s S w) (hc : Chg (Near gl ob) w w') (hw : Wr 86 gl (.slice none 0 0) 0 (pack false l).1 (pack false l).2 ob' w') (hn : Next ob ob' w) :
    ∃ S', Zb x gl vm ob' sz ⟨l, s.wd, s.nx, s.tab, s.first⟩ S' w' ∧ More S S' w ∧ Chg S w w' := by
  have n1 := h.n1
  have n4 := h.n4
  have hN : ∀ k ∈ Near gl ob, k = gl ∨ ob = some k := fun k hk => by simp [Near] at hk; exact hk
  have hNS : ∀ k ∈ Near gl ob, k ∈ S := fun k hk => by rcases hN k hk with h1 | h1; rw [h1]; exact h.s2; exact h.s4 k h1
  have hob : ∀ k, ob' = some k → k ∈ S ∨ w.heap.size ≤ k := fun k hk => by
    rcases hn with h1 | ⟨q, h1, h2⟩
    · exact .inl (h.s4 k (h1.symm.trans hk))
    · rw [h1] at hk; injection hk with hk; exact .inr (by omega)
  have hxl := h.sl x h.s1
  have hwr := hw
  obtain ⟨⟨vo, _, hown, hvo⟩, _, _, _⟩ := hwr
  refine ⟨ob'.toList ++ S, ⟨hp_chg h.box hc (fun hm => by rcases hN _ hm with h9 | h9; exact n1 h9.symm; exact n4 h9), hw, n1, fun e => ?_, by simp [h.s1], by simp [h.s2], fun k hk => by simp [hk], fun k hk => ?_⟩, fun k hk => ?_, hc.mono hNS⟩
  · rcases hn with h3 | ⟨q, h3, h4⟩
    · exact n4 (h3.symm.trans e)
    · rw [h3] at e; injection e with e; omega
  · have h6 : ob' = some k ∨ k ∈ S := by simpa using hk
    rcases h6 with h6 | h6
    · exact (hown.lt k (hvo.trans h6)).2
    · exact Nat.lt_of_lt_of_le (h.sl k h6) hc.size
  · have h6 : ob' = some k ∨ k ∈ S := by simpa using hk
    rcases h6 with h6 | h6
    · exact hob k h6
    · exact .inl h6
theorem Zb.setX (h : Zb x gl vm ob sz s S w) {wd nx : Nat} {f : Bool} (hc : Chg [x] w w') (hb : w'.heap[x]? = some (.cells #[.pointer (some ⟨gl, 0, none⟩), .int .i64 (sz : Nat), .int .i64 (wd : Nat), .int .i64 (nx : Nat), vm, .bool f] 91 (0, 0))) :
    Zb x gl vm ob sz ⟨s.bits, wd, nx, s.tab, f⟩ S w' :=
  ⟨hb, h.wr.chg hc (by simpa using h.n1) (fun k hk hm => by simp at hm; rw [hm] at hk; exact h.n4 hk), h.n1, h.n4, h.s1, h.s2, h.s4, fun k hk => Nat.lt_of_lt_of_le (h.sl k hk) hc.size⟩
theorem Zb.newMap {cl : Nat} (h : Zb x gl vm ob sz s S w) {m' wd nx : Nat} {f : Bool} {T : List Nat} (hm' : w.heap.size ≤ m') (hc : Chg T w w') (hT : ∀ k ∈ T, k = x ∨ w.heap.size ≤ k) (hmp : w'.ownsMap Try.prog 93 (plainElem Try.prog 3) m' 0 (.map [] : DataW Unit))
    (hb : w'.heap[x]? = some (.cells #[.pointer (some ⟨gl, 0, none⟩), .int .i64 (sz : Nat), .int .i64 (wd : Nat), .int .i64 (nx : Nat), .map (some m'), .bool f] 91 (0, 0))) :
    ∃ S', Zm x gl m' ob sz cl ⟨s.bits, wd, nx, [], f⟩ S' w' ∧ More S S' w ∧ Chg S w w' := by
  have n1 := h.n1
  have n4 := h.n4
  have hgl := h.sl gl h.s2
  have hxl := h.sl x h.s1
  have hml := hmp.lt
  refine ⟨m' :: S, ⟨hb, h.wr.chg hc (fun hm => by rcases hT _ hm with h1 | h1; exact n1 h1; omega) (fun k hk hm => by rcases hT _ hm with h1 | h1; rw [h1] at hk; exact n4 hk; have := h.sl k (h.s4 k hk); omega), ⟨_, hmp, EMap.nil cl⟩, (fun y hy => by simp at hy), ⟨n1, by omega, by omega, n4, fun e => by have := h.sl m' (h.s4 m' e); omega⟩, by simp [h.s1], by simp [h.s2], by simp, fun k hk => by simp [h.s4 k hk], fun k hk => ?_⟩, fun k hk => ?_, ?_⟩
  · rcases List.mem_cons.1 hk with h1 | h1
    · rw [h1]; exact hml
    · exact Nat.lt_of_lt_of_le (h.sl k h1) hc.size
  · rcases List.mem_cons.1 hk with h1 | h1
    · exact .inr (by omega)
    · exact .inl h1
  · refine ⟨hc.os, hc.tape, hc.output, hc.size, fun k hk hn => hc.block k hk (fun hm => ?_)⟩
    rcases hT k hm with h1 | h1
    · exact hn (by rw [h1]; exact h.s1)
    · omega
end
set_option maxRecDepth 100000 in
set_option maxHeartbeats 2000000 in
theorem zclearB (x gl : Nat) (vm : Value) (hvm : vm = .map none ∨ ∃ m, vm = .map (some m)) (ob : Option Nat) (sz cl : Nat) (hcl : Hid (cl = 2 ^ sz)) (hs : sz ≤ 8) (hc256 : cl ≤ 256) (s : Ez) (S : List Nat) (hbl : s.bits.length ≤ 3900000) (hwd : s.wd ≤ 12) (w : World) (h : Zb x gl vm ob sz s S w) :
    Calls Try.prog 39 #[.pointer (some ⟨x, 0, none⟩)] w fun e w' => e = .returned (.tuple #[]) ∧ ZmP x gl sz cl (s.clear cl sz) S w w' := by
  obtain ⟨vq, rfl⟩ : ∃ vq, vm = .map vq := by
    rcases hvm with h | ⟨m, h⟩
    · exact ⟨_, h⟩
    · exact ⟨_, h⟩
  clear hvm
  have hb := h.box
  have c0 := hp_cell (j := 0) hb rfl
  have c1 := hp_cell (j := 1) hb rfl
  have c2 := hp_cell (j := 2) hb rfl
  have HZ := Lib.hid h
  have hwr := h.wr
  have hmm := @run_makeMap Try.prog
  clear hb h
  go_enter Try.func39, Try.ntmps39
  go_wp2_with fail
  go_still_tail 13, (by kernel_rfl)
  still_call (clear_s x 1 sz cl hs hcl _ (by exact c1))
  repeat still_step
  refine wpStill_nil ?_
  change wpList _ _ _ _ _ w.drew
  go_wp2_with fail
  refine (putL gl (.slice none 0 0) 0 (pack false s.bits).1 (pack false s.bits).2 ob (pack_bytes _ hbl) (cl : Nat) (by unfold In64; omega) s.wd (by omega) _ (hwr.chg ((Chg.refl [] w).drew) (by simp) (by simp))).mono ?_
  rintro e w1 ⟨rfl, hC, ob', hW, hN⟩
  rw [putsL_pack] at hW
  obtain ⟨S1, hZ1, hM1, hC1⟩ := (HZ.out.below (Below.refl _ w).drew).put hC hW hN
  have hb1 := hZ1.box
  have hM1' : More S S1 w := hM1
  have hC1' : Chg S w w1 := ((Chg.refl S w).drew).trans hC1
  have hW3 : W3 x 1 sz s.wd s.nx w1 := ⟨hp_cell (j := 1) hb1 rfl, hp_cell (j := 2) hb1 rfl, hp_cell (j := 3) hb1 rfl, fun j => hp_froz hb1 j⟩
  have HZ1 := Lib.hid hZ1
  have HM1 := Lib.hid hM1'
  have HC1 := Lib.hid hC1'
  have HB1 := Lib.hid hb1
  have HW3 := Lib.hid hW3
  clear hb1 hZ1 hM1 hC1 hM1' hC1' hC hW hN hwr c0 c1 c2 hW3
  go_wp2_with fail
  refine (reset_w x 1 sz s.wd s.nx hs _ HW3.out).mono ?_
  rintro e w2 ⟨rfl, hS⟩
  have hb2 := hS.blk _ _ HB1.out
  have hz2 := HZ1.out.setX (wd := sz + 1) (nx := 2 ^ sz + 2) (f := s.first) hS.chg hb2
  have j4 := hp_cell (j := 4) hz2.box rfl
  have j5 := hp_cell (j := 5) hz2.box rfl
  have jf := fun j => hp_froz hz2.box j
  have hx2 := hz2.sl x hz2.s1
  have HZ2 := Lib.hid hz2
  have HC2 := Lib.hid (HC1.out.trans2 hS.chg (fun k hk => by simp at hk; rw [hk]; exact .inl HZ.out.s1))
  have HB2 := Lib.hid hz2.box
  clear hS hb2 hz2
  go_wp2
  go_end0
  have hcx : Chg [x] w2 (((w2.setCell ⟨x, 4, none⟩ (.map (some w2.heap.size))).setCell ⟨x, 5, none⟩ (.bool true)).alloc (.map #[] 0)) := ((((Chg.refl _ w2).set (.inl (by simp)) _ _).set (.inl (by simp)) _ _).alloc _)
  have hsz2 : ((w2.setCell ⟨x, 4, none⟩ (.map (some w2.heap.size))).setCell ⟨x, 5, none⟩ (.bool true)).heap.size = w2.heap.size := by simp [World.setCell]
  have hmade := World.ownsMap_made (H := Unit) ((w2.setCell ⟨x, 4, none⟩ (.map (some w2.heap.size))).setCell ⟨x, 5, none⟩ (.bool true)) Try.prog 93 (plainElem Try.prog 3)
  rw [hsz2] at hmade
  obtain ⟨S3, hZ3, hM3, hC3⟩ := HZ2.out.newMap (cl := cl) (wd := sz + 1) (nx := 2 ^ sz + 2) (f := true) (Nat.le_refl _) hcx (by simp) hmade (hp_alloc _ (heap_set (heap_set HB2.out)))
  have e1 : s.clear cl sz = ⟨s.bits ++ numB false (cl : Nat) s.wd, sz + 1, 2 ^ sz + 2, [], true⟩ := by unfold Ez.clear; rw [← hcl.out]
  rw [e1]
  exact ⟨rfl, _, ob', S3, hZ3, HM1.out.trans hM3 HC2.out.size, HC2.out.trans2 hC3 HM1.out⟩
end Go.Proofs.Ytlgoohhfpmomhaa

namespace Go.Proofs.Ytlgoohhfpmomhaa
set_option maxRecDepth 100000
set_option linter.unusedVariables false
open Go.ChangeShapes Go.WideShapes Go.ChangeAt Go.RowKit
open Go.Maps

/-- What holds of a writer behind j values. -/
structure InvE (cl : Nat) (q : Ez × Option Nat) (j : Nat) : Prop where
  wd : q.1.wd ≤ 12
  nx : q.1.nx ≤ 4096
  tl : cl + 2 + q.1.tab.length ≤ 4096
  bl : q.1.bits.length ≤ 24 * j + 12
  now : ∀ k, q.2 = some k → k < 4096
theorem inv_clear {s : Ez} {cl sz : Nat} (hs : sz ≤ 8) (hc : cl ≤ 256) {j : Nat} (h : s.bits.length ≤ j) (hwd : s.wd ≤ 12) : (s.clear cl sz).wd ≤ 12 ∧ (s.clear cl sz).nx ≤ 4096 ∧ cl + 2 + (s.clear cl sz).tab.length ≤ 4096 ∧ (s.clear cl sz).bits.length ≤ j + 12 := by
  unfold Ez.clear
  refine ⟨by show sz + 1 ≤ 12; omega, by show cl + 2 ≤ 4096; omega, by show cl + 2 + 0 ≤ 4096; omega, ?_⟩
  show (s.bits ++ numB false (cl : Nat) s.wd).length ≤ _
  rw [List.length_append, numB_len]
  omega
theorem inv0 {cl sz : Nat} (hs : sz ≤ 8) (hc : cl ≤ 256) : InvE cl (ez0 cl sz, none) 0 := by
  obtain ⟨h1, h2, h3, h4⟩ := inv_clear (s := ⟨[], sz + 1, cl + 2, [], true⟩) (j := 0) hs hc (by simp) (by show sz + 1 ≤ 12; omega)
  exact ⟨h1, h2, h3, by unfold ez0; omega, (fun k h => by cases h)⟩
theorem inv_step {cl sz : Nat} (hs : sz ≤ 8) (hc : cl ≤ 256) {q : Ez × Option Nat} {j v : Nat} (h : InvE cl q j) (hv : v < 256) : InvE cl (stepE cl sz q v) (j + 1) := by
  obtain ⟨s, now⟩ := q
  obtain ⟨h1, h2, h3, h4, h5⟩ := h
  simp only at h1 h2 h3 h4 h5
  unfold stepE
  cases now with
  | none => exact ⟨h1, h2, h3, by show s.bits.length ≤ _; omega, fun k hk => by injection hk with hk; omega⟩
  | some k =>
    dsimp only
    by_cases hm : (k, v) ∈ s.tab
    · rw [if_pos hm]
      have := List.idxOf_lt_length_of_mem hm
      exact ⟨h1, h2, h3, by show s.bits.length ≤ _; omega, fun k' hk => by injection hk with hk; omega⟩
    · rw [if_neg hm]
      have b1 := put_bits s k h1
      have b2 := put_wd (s := s) k h1
      have b3 := put_nx (s := s) k h2
      unfold Ez.add
      by_cases hf : cl + 2 + s.tab.length < 4096
      · rw [if_pos hf]
        exact ⟨b2, b3, by simp; omega, by show (s.put k).bits.length ≤ _; omega, fun k' hk => by injection hk with hk; omega⟩
      · rw [if_neg hf]
        obtain ⟨g1, g2, g3, g4⟩ := inv_clear (s := s.put k) (sz := sz) hs hc b1 b2
        exact ⟨g1, g2, g3, by show ((s.put k).clear cl sz).bits.length ≤ _; omega, fun k' hk => by injection hk with hk; omega⟩
theorem inv_run {cl sz : Nat} (hs : sz ≤ 8) (hc : cl ≤ 256) (l : List Nat) (h : ∀ v ∈ l, v < 256) : InvE cl (runE cl sz l) l.length := by
  have key : ∀ (m : List Nat) (q : Ez × Option Nat) (j : Nat), InvE cl q j → (∀ v ∈ m, v < 256) → InvE cl (m.foldl (stepE cl sz) q) (j + m.length) := by
    intro m
    induction m with
    | nil => intro q j hq _; exact hq
    | cons v m ih =>
      intro q j hq hm
      rw [List.foldl_cons, List.length_cons, show j + (m.length + 1) = (j + 1) + m.length by omega]
      exact ih _ _ (inv_step hs hc hq (hm v (by simp))) (fun u hu => hm u (by simp [hu]))
  have := key l (ez0 cl sz, none) 0 (inv0 hs hc) h
  rwa [Nat.zero_add] at this
theorem runE_snoc (cl sz : Nat) (l : List Nat) (v : Nat) : runE cl sz (l ++ [v]) = stepE cl sz (runE cl sz l) v := by simp [runE]
def nowI (o : Option Nat) : Int := match o with | none => -1 | some k => (k : Nat)
theorem bytes_take (b : Nat → Nat) (n j : Nat) (h : j < n) : ((List.range n).map b).take (j + 1) = ((List.range n).map b).take j ++ [b j] := by
  rw [List.take_add_one, List.getElem?_eq_getElem (by simpa using h)]
  simp
theorem wrap_pow1 (k : Nat) (h : k ≤ 12) : wrap64 (1 * (2 : Int) ^ k) = ((2 ^ k : Nat) : Int) := by rw [Int.one_mul]; exact wrap_pow k h
set_option maxRecDepth 100000 in
set_option maxHeartbeats 1000000 in
theorem write_no (A : Option Addr) (n cap : Nat) (size : Int) (h : ¬ (2 ≤ size ∧ size ≤ 8)) (w : World) :
    Calls Try.prog 23 #[.slice A n cap, .int .i64 size] w fun e w' => e = .returned (.tuple #[.slice none 0 0, .int .i64 1]) ∧ w = w' := by
  have d1 : decide (2 ≤ size ∧ size ≤ 8) = false := by simp; omega
  go_enter Try.func23, Try.ntmps23
  go_wp2_with fail
  refine (may_w size _).mono ?_
  rintro e w1 ⟨rfl, rfl⟩
  rw [d1]
  go_wp2
  go_ret2
  exact ⟨rfl, rfl⟩
theorem hzE (w : World) : (zeroValue 3).run Try.prog w = .ok (.int .i64 0) w := by kernel_rfl
theorem lit_inj {x y : Int} (h : (DataW.lit (.int .i64 x) : DataW Unit) = .lit (.int .i64 y)) : x = y := by injection h with h; injection h
/-- A round of the writer. -/
def WrR (w0 : World) (x gl sz cl : Nat) (l : List Nat) (j : Nat) (s9 : Value) (w : World) : Prop :=
  ∃ m ob S, s9 = .int .i64 (nowI (runE cl sz (l.take j)).2) ∧ Zm x gl m ob sz cl (runE cl sz (l.take j)).1 S w ∧ (∀ k ∈ S, w0.heap.size ≤ k) ∧ Below w0.heap.size w0 w
set_option maxRecDepth 100000 in
set_option maxHeartbeats 4000000 in
theorem write_any (A : Option Addr) (n cap : Nat) (b : Nat → Nat) (hbt : ∀ i, b i < 256) (sz : Nat) (h1 : 2 ≤ sz) (h2 : sz ≤ 8) (hn : n ≤ 100000) (w : World) (hP : Byt w A n b) (hall : ∀ i, i < n → b i < 2 ^ sz) :
    Calls Try.prog 23 #[.slice A n cap, .int .i64 (sz : Nat)] w fun e w' => ∃ A' cap', e = .returned (.tuple #[.slice A' (lzwE sz ((List.range n).map b)).length cap', .int .i64 0]) ∧ NewB w.heap.size w' (lzwE sz ((List.range n).map b)).length A' cap' (gz (lzwE sz ((List.range n).map b))) ∧ Below w.heap.size w w' := by
  obtain ⟨cl, hcl⟩ : ∃ cl, cl = 2 ^ sz := ⟨_, rfl⟩
  rw [← hcl] at hall
  have hc256 : 4 ≤ cl ∧ cl ≤ 256 := by
    rw [hcl]
    exact ⟨Nat.pow_le_pow_right (n := 2) (i := 2) (by omega) h1, Nat.pow_le_pow_right (n := 2) (j := 8) (by omega) h2⟩
  obtain ⟨l, hl⟩ : ∃ l, l = (List.range n).map b := ⟨_, rfl⟩
  rw [← hl]
  have hll : l.length = n := by rw [hl]; simp
  have HL := Lib.hid hl
  have HLL := Lib.hid hll
  have HCL := Lib.hid hcl
  have HA := Lib.hid hall
  have d1 : decide (2 ≤ (sz : Int) ∧ (sz : Int) ≤ 8) = true := by simp; omega
  have hwp : wrap64 ((2 : Int) ^ sz) = (cl : Int) := by rw [wrap_pow sz (by omega), hcl]
  have HWP := Lib.hid hwp
  clear hl hll hcl hall hwp
  go_enter Try.func23, Try.ntmps23
  go_wp2_with fail
  refine (may_w (sz : Nat) _).mono ?_
  rintro e w1 ⟨rfl, rfl⟩
  rw [d1]
  clear d1
  go_wp2_with fail
  go_loopw [19] (fun s19 wr => ∃ j : Nat, s19 = .int .i64 (j : Nat) ∧ j ≤ n ∧ Hid (wr = w)) (fun s19 _ => n - (intOf s19).toNat)
  case atStart => exact ⟨0, rfl, by omega, Lib.hid rfl⟩
  case round =>
    obtain ⟨j, rfl, hj, hwr⟩ := hrel
    obtain rfl := hwr.out
    by_cases hlt : j < n
    · obtain ⟨bk, off, rfl, hbk, hcell⟩ := hP (by omega)
      have hc0 := hcell j hlt
      have hb1 := hbt j
      have hb2 := HA.out j hlt
      generalize b j = v at *
      have d2 : decide ((cl : Int) ≤ (v : Int)) = false := by simp; omega
      have hwp := HWP.out
      clear hcell
      go_wp2_with fail
      go_roundw
      case rel => exact ⟨j + 1, by go_num, by omega, Lib.hid (by trivial)⟩
      case measure => simp [intOf]; omega
    · obtain rfl : n = j := by omega
      have d3 : decide ((1048576 : Int) < (n : Int)) = false := by simp; omega
      have d4 : decide (1048576 < n) = false := by simp; omega
      have hbits0 : ∀ j, (runE cl sz (l.take j)).1.bits.length ≤ 2500000 := fun j => by
        have := (inv_run (cl := cl) (sz := sz) h2 hc256.2 (l.take j) (fun v hv => by rw [HL.out] at hv; obtain ⟨i, _, rfl⟩ := List.mem_map.1 (List.mem_of_mem_take hv); exact hbt i)).bl
        have hl2 : (l.take j).length ≤ 100000 := by rw [List.length_take, HLL.out]; omega
        omega
      have hinv : ∀ j, InvE cl (runE cl sz (l.take j)) (l.take j).length := fun j => inv_run h2 hc256.2 (l.take j) (fun v hv => by rw [HL.out] at hv; obtain ⟨i, _, rfl⟩ := List.mem_map.1 (List.mem_of_mem_take hv); exact hbt i)
      have HBI := Lib.hid hbits0
      have HIN := Lib.hid hinv
      clear hbits0 hinv
      go_wp2_with fail
      obtain ⟨wB, hwB⟩ : ∃ wB, wB = (wr.alloc (.cells #[.slice none 0 0, .slice none 0 0, .int .i64 0, .int .i64 0] 86)).alloc (.cells #[.pointer (some ⟨wr.heap.size, 0, none⟩), .int .i64 (sz : Nat), .int .i64 0, .int .i64 0, .map none, .bool false] 91) := ⟨_, rfl⟩
      have hsB : wB.heap.size = wr.heap.size + 2 := by rw [hwB]; simp
      have hBB : Below wr.heap.size wr wB := by rw [hwB]; exact ((Below.refl _ wr).alloc (Nat.le_refl _) _).alloc (by simp) _
      have hbl : wB.heap[wr.heap.size]? = some (.cells #[.slice none 0 0, .slice none 0 0, .int .i64 0, .int .i64 0] 86 (0, 0)) := by rw [hwB]; exact hp_alloc _ (hp_new0 wr _)
      have hbx : wB.heap[wr.heap.size + 1]? = some (.cells #[.pointer (some ⟨wr.heap.size, 0, none⟩), .int .i64 (sz : Nat), .int .i64 0, .int .i64 0, .map none, .bool false] 91 (0, 0)) := by
        rw [hwB]
        have := hp_new0 (wr.alloc (.cells #[.slice none 0 0, .slice none 0 0, .int .i64 0, .int .i64 0] 86)) (.cells #[.pointer (some ⟨wr.heap.size, 0, none⟩), .int .i64 (sz : Nat), .int .i64 0, .int .i64 0, .map none, .bool false] 91)
        rwa [World.size_alloc] at this
      rw [← hwB]
      clear hwB
      have hzb : Zb (wr.heap.size + 1) wr.heap.size (.map none) none sz ⟨[], 0, 0, [], false⟩ [wr.heap.size + 1, wr.heap.size] wB :=
        ⟨hbx, ⟨⟨.slice none 0 0, hbl, World.ownsRow_nil _ _ _ _, rfl⟩, by show 0 < 8; omega, (fun h => absurd h (by show ¬ 0 < 0; omega)), (fun y hy => by simp [pack] at hy)⟩, by omega, by simp, by simp, by simp, (fun k h => by cases h), fun k hk => by simp at hk; omega⟩
      refine (reset_w (wr.heap.size + 1) 1 sz 0 0 h2 _ ⟨hp_cell (j := 1) hbx rfl, hp_cell (j := 2) hbx rfl, hp_cell (j := 3) hbx rfl, fun j => hp_froz hbx j⟩).mono ?_
      rintro e w2 ⟨rfl, hS⟩
      have hz2 := hzb.setX (wd := sz + 1) (nx := 2 ^ sz + 2) (f := false) hS.chg (hS.blk _ _ hbx)
      have hB2 : Below wr.heap.size wr w2 := hBB.trans (hS.chg.below (by omega) (by simp))
      have hS2 := hS.chg.size
      have HZ2 := Lib.hid hz2
      have HB2 := Lib.hid hB2
      clear hS hz2 hB2 hzb hbx hbl hBB
      go_wp2_with fail
      refine (zclearB (wr.heap.size + 1) wr.heap.size (.map none) (.inl rfl) none sz cl HCL h2 hc256.2 _ _ (by simp) (by show sz + 1 ≤ 12; omega) _ HZ2.out).mono ?_
      rintro e w3 ⟨rfl, m3, ob3, S3, hz3, hM3, hC3⟩
      have h0 : WrR wr (wr.heap.size + 1) wr.heap.size sz cl l 0 (.int .i64 (-1)) w3 := by
        refine ⟨m3, ob3, S3, rfl, ?_, fun k hk => ?_, HB2.out.trans (hC3.below (by omega) (by simp))⟩
        · rw [List.take_zero]
          exact hz3
        · rcases hM3 k hk with h | h
          · simp at h; omega
          · omega
      have H0 := Lib.hid h0
      clear hz3 hM3 hC3 h0
      go_wp2_with fail
      obtain ⟨wo, rfl⟩ : ∃ wo : World, wo = wr := ⟨_, rfl⟩
      go_loopw [9, 46] (fun s9 s46 wx => ∃ j : Nat, s46 = .int .i64 (j : Nat) ∧ j ≤ n ∧ WrR wo (wo.heap.size + 1) wo.heap.size sz cl l j s9 wx) (fun _ s46 _ => n - (intOf s46).toNat)
      case atStart => exact ⟨0, rfl, by omega, H0.out⟩
      case round =>
        obtain ⟨j, rfl, hj, m, ob, S, rfl, hz, hSS, hB⟩ := hrel
        have hiv := HIN.out j
        obtain ⟨q, hq⟩ : ∃ q, q = runE cl sz (l.take j) := ⟨_, rfl⟩
        rw [← hq] at hz hiv ⊢
        have hbj : q.1.bits.length ≤ 2500000 := by rw [hq]; exact HBI.out j
        have HQ := Lib.hid hq
        obtain ⟨i1, i2, i3, i4, i5⟩ := hiv
        clear hq
        by_cases hlt : j < n
        · have hstep : runE cl sz (l.take (j + 1)) = stepE cl sz q (b j) := by
            rw [HL.out, bytes_take b n j hlt, runE_snoc, ← HL.out, ← HQ.out]
          obtain ⟨bk, off, rfl, hbk, hcell⟩ := (hP.below hB) (by omega)
          have hc0 := hcell j hlt
          have hv := hbt j
          generalize b j = v at *
          have hbx := hz.box
          have c4 := hp_cell (j := 4) hbx rfl
          obtain ⟨D, hmap, hE⟩ := hz.map
          have HST := Lib.hid hstep
          have HZ := Lib.hid hz
          have HSS := Lib.hid hSS
          have HB := Lib.hid hB
          have HE := Lib.hid hE
          clear hcell hstep hz hSS hB hbx hE
          obtain ⟨s, now⟩ := q
          simp only at i1 i2 i3 i4 i5 hbj
          cases now with
          | none =>
            have hkey := key_eV (-1) v (by omega) hv
            have hhas := HE.out.2.2.1 v hv
            have hw : Hid (WrR wo (wo.heap.size + 1) wo.heap.size sz cl l (j + 1) (.int .i64 (v : Nat)) wr) := by
              refine Lib.hid ⟨m, ob, S, ?_, ?_, HSS.out, HB.out⟩
              · rw [HST.out]; rfl
              · rw [HST.out]; exact HZ.out
            go_wp2_with (at_lookup; refine wpList_lookup_own_ok_int _ rfl _ _ 89 rfl 93 3 .i64 keyed81 Try.underlying89 Try.underlying3 (hzE _) m _ D rfl hmap (eV (-1) v) _ rfl hkey ?_; intro cv hatc hwc; rw [hhas]; clear hatc hwc)
            go_roundw
            case rel => exact ⟨j + 1, by go_num, by omega, hw.out⟩
            case measure => simp [intOf]; omega
          | some k =>
            have hk4 : k < 4096 := i5 k rfl
            have hkey := key_eV (k : Nat) v (by omega) hv
            obtain ⟨hh1, hh2⟩ := HE.out.2.2.2 k v (by omega) hv
            have n1 : ((k : Int) == -1) = false := by rw [beq_eq_false_iff_ne]; omega
            by_cases hmem : (k, v) ∈ s.tab
            · have hidx := List.idxOf_lt_length_of_mem hmem
              have hhas : Maps.has D (klE k v) = true := by rw [hh1]; simpa using hmem
              have hat := hh2 hmem
              have hw : Hid (WrR wo (wo.heap.size + 1) wo.heap.size sz cl l (j + 1) (.int .i64 ((cl + 2 + s.tab.idxOf (k, v) : Nat) : Int)) wr) := by
                refine Lib.hid ⟨m, ob, S, ?_, ?_, HSS.out, HB.out⟩
                · rw [HST.out]; unfold stepE; simp only [if_pos hmem]; rfl
                · rw [HST.out]; unfold stepE; simp only [if_pos hmem]; exact HZ.out
              have HAT := Lib.hid hat
              generalize s.tab.idxOf (k, v) = ix at *
              clear hh1 hh2 hmem hat
              go_wp2_with (at_lookup; refine wpList_lookup_own_ok_int _ rfl _ _ 89 rfl 93 3 .i64 keyed81 Try.underlying89 Try.underlying3 (hzE _) m _ D rfl hmap (eV k v) _ rfl hkey ?_; intro cv hatc hwc; rw [hhas]; obtain rfl := lit_inj (HAT.out.symm.trans hatc); clear hatc hwc)
              go_roundw
              case rel => exact ⟨j + 1, by go_num, by omega, hw.out⟩
              case measure => simp [intOf]; omega
            · have hhas : Maps.has D (klE k v) = false := by rw [hh1]; simpa using hmem
              clear hh1 hh2
              go_wp2_with (at_lookup; refine wpList_lookup_own_ok_int _ rfl _ _ 89 rfl 93 3 .i64 keyed81 Try.underlying89 Try.underlying3 (hzE _) m _ D rfl hmap (eV k v) _ rfl hkey ?_; intro cv hatc hwc; rw [hhas]; clear hatc hwc)
              refine (zadd (wo.heap.size + 1) wo.heap.size m ob sz cl HCL h2 hc256.2 s S k v (by omega) hv hmem (by omega) i1 i2 (by omega) _ HZ.out).mono ?_
              rintro e w9 ⟨rfl, m9, ob9, S9, hz9, hM9, hC9⟩
              have hw : Hid (WrR wo (wo.heap.size + 1) wo.heap.size sz cl l (j + 1) (.int .i64 (v : Nat)) w9) := by
                refine Lib.hid ⟨m9, ob9, S9, ?_, ?_, fun y hy => ?_, HB.out.trans (hC9.below HB.out.size HSS.out)⟩
                · rw [HST.out]; unfold stepE; simp only [if_neg hmem]; rfl
                · rw [HST.out]; unfold stepE; simp only [if_neg hmem]; exact hz9
                · rcases hM9 y hy with h | h
                  · exact HSS.out y h
                  · exact Nat.le_trans HB.out.size h
              clear hz9 hM9 hC9 hmem
              go_wp2_with fail
              go_roundw
              case rel => exact ⟨j + 1, by go_num, by omega, hw.out⟩
              case measure => simp [intOf]; omega
        · obtain rfl : n = j := by omega
          have htk : l.take n = l := List.take_of_length_le (by rw [HLL.out]; exact Nat.le_refl _)
          have hrun : q = runE cl sz l := by rw [HQ.out, htk]
          have HR := Lib.hid hrun
          have HSS := Lib.hid hSS
          have HB := Lib.hid hB
          have HZ := Lib.hid hz
          have hbx := hz.box
          clear hrun hSS hB hz htk
          obtain ⟨s, now⟩ := q
          simp only at i1 i2 i3 i4 i5 hbj
          cases now with
          | none =>
            have hE0 : endE cl (s, none) = s.bits ++ numB false ((cl + 1 : Nat) : Int) s.wd := rfl
            have hlen : lzwE sz l = (pack false (s.bits ++ numB false ((cl + 1 : Nat) : Int) s.wd)).1 := by
              unfold lzwE
              rw [← HCL.out, ← HR.out, hE0]
            have HLEN := Lib.hid hlen
            clear hE0 hlen
            have p0 := hp_cell (j := 0) hbx rfl
            have p1 := hp_cell (j := 1) hbx rfl
            have p2 := hp_cell (j := 2) hbx rfl
            have hwr := HZ.out.wr
            go_wp2_with fail
            go_still_tail 14, (by kernel_rfl)
            still_call (clear_s (wo.heap.size + 1) 1 sz cl h2 HCL _ (by exact p1))
            repeat still_step
            refine wpStill_nil ?_
            change wpList _ _ _ _ _ (World.drew _)
            go_wp2_with fail
            rw [show ((cl : Int) + 1) = ((cl + 1 : Nat) : Int) by omega]
            refine (putL wo.heap.size (.slice none 0 0) 0 (pack false s.bits).1 (pack false s.bits).2 ob (pack_bytes _ (by omega)) ((cl + 1 : Nat) : Int) (by unfold In64; omega) s.wd (by omega) _ (hwr.chg ((Chg.refl [] _).drew) (by simp) (by simp))).mono ?_
            rintro e w5 ⟨rfl, hC5, ob5, hW5, hN5⟩
            rw [putsL_pack] at hW5
            obtain ⟨S5, hZ5, hM5, hC5'⟩ := (HZ.out.below (Below.refl _ _).drew).put hC5 hW5 hN5
            have p0' := hp_cell (j := 0) hZ5.box rfl
            have hwr5 := hZ5.wr
            have hB5 : Below wo.heap.size wo w5 := (HB.out.drew).trans (hC5'.below HB.out.size HSS.out)
            have HB5 := Lib.hid hB5
            have HW5 := Lib.hid hwr5
            have hlb : (pack false (s.bits ++ numB false ((cl + 1 : Nat) : Int) s.wd)).1.length ≤ 500000 := pack_bytes _ (by rw [List.length_append, numB_len]; omega)
            clear hZ5 hM5 hC5 hC5' hB5 hwr5 hwr hW5 hN5 p0 p1 p2
            go_wp2_with fail
            refine (outL wo.heap.size (.slice none 0 0) 0 _ _ ob5 (by omega) _ HW5.out).mono ?_
            rintro e w6 ⟨A6, cap6, rfl, hN6, hB6⟩
            have HB6 := Lib.hid (HB5.out.trans (hB6.mono HB5.out.size))
            have HN6 : Hid (NewB wo.heap.size w6 (lzwE sz l).length A6 cap6 (gz (lzwE sz l))) := by
              rw [HLEN.out]
              exact Lib.hid ⟨hN6.le, hN6.max, hN6.nil, hN6.byt, (fun a ha => Nat.le_trans HB5.out.size (hN6.far a ha)), hN6.lt, hN6.form⟩
            clear hN6 hB6
            rw [← HLEN.out]
            go_wp2
            go_ret2
            exact ⟨A6, cap6, rfl, HN6.out, HB6.out⟩
          | some k =>
            have hk4 : k < 4096 := i5 k rfl
            have n1 : ((k : Int) != -1) = true := by rw [bne_iff_ne]; omega
            go_wp2_with fail
            refine (zput (wo.heap.size + 1) wo.heap.size m ob sz cl s S k (by omega) (by omega) i1 i2 _ HZ.out).mono ?_
            rintro e w4 ⟨rfl, m4, ob4, S4, hz4, hM4, hC4⟩
            have b1 := put_bits s k i1
            have b2 := put_wd (s := s) k i1
            have hbx4 := hz4.box
            have HZ4 := Lib.hid hz4
            have HB4 := Lib.hid (HB.out.trans (hC4.below HB.out.size HSS.out))
            have HSS4 := Lib.hid (show ∀ y ∈ S4, wo.heap.size ≤ y from fun y hy => by
              rcases hM4 y hy with h | h
              · exact HSS.out y h
              · exact Nat.le_trans HB.out.size h)
            clear hz4 hM4 hC4 hbx
            have hbx := hbx4
            clear hbx4
            obtain ⟨s4, hs4⟩ : ∃ s4, s4 = s.put k := ⟨_, rfl⟩
            rw [← hs4] at hbx b1 b2 HZ4
            have hE0 : endE cl (s, some k) = s4.bits ++ numB false ((cl + 1 : Nat) : Int) s4.wd := by rw [hs4]; rfl
            have hlen : lzwE sz l = (pack false (s4.bits ++ numB false ((cl + 1 : Nat) : Int) s4.wd)).1 := by
              unfold lzwE
              rw [← HCL.out, ← HR.out, hE0]
            have HLEN := Lib.hid hlen
            have HS4 := Lib.hid hs4
            clear hE0 hlen hs4
            have p0 := hp_cell (j := 0) hbx rfl
            have p1 := hp_cell (j := 1) hbx rfl
            have p2 := hp_cell (j := 2) hbx rfl
            have hwr := HZ4.out.wr
            go_wp2_with fail
            go_still_tail 14, (by kernel_rfl)
            still_call (clear_s (wo.heap.size + 1) 1 sz cl h2 HCL _ (by exact p1))
            repeat still_step
            refine wpStill_nil ?_
            change wpList _ _ _ _ _ (World.drew _)
            go_wp2_with fail
            rw [show ((cl : Int) + 1) = ((cl + 1 : Nat) : Int) by omega]
            refine (putL wo.heap.size (.slice none 0 0) 0 (pack false s4.bits).1 (pack false s4.bits).2 ob4 (pack_bytes _ (by omega)) ((cl + 1 : Nat) : Int) (by unfold In64; omega) s4.wd (by omega) _ (hwr.chg ((Chg.refl [] _).drew) (by simp) (by simp))).mono ?_
            rintro e w5 ⟨rfl, hC5, ob5, hW5, hN5⟩
            rw [putsL_pack] at hW5
            obtain ⟨S5, hZ5, hM5, hC5'⟩ := (HZ4.out.below (Below.refl _ _).drew).put hC5 hW5 hN5
            have p0' := hp_cell (j := 0) hZ5.box rfl
            have hwr5 := hZ5.wr
            have hB5 : Below wo.heap.size wo w5 := (HB4.out.drew).trans (hC5'.below HB4.out.size HSS4.out)
            have HB5 := Lib.hid hB5
            have HW5 := Lib.hid hwr5
            have hlb : (pack false (s4.bits ++ numB false ((cl + 1 : Nat) : Int) s4.wd)).1.length ≤ 500000 := pack_bytes _ (by rw [List.length_append, numB_len]; omega)
            clear hZ5 hM5 hC5 hC5' hB5 hwr5 hwr hW5 hN5 p0 p1 p2
            go_wp2_with fail
            refine (outL wo.heap.size (.slice none 0 0) 0 _ _ ob5 (by omega) _ HW5.out).mono ?_
            rintro e w6 ⟨A6, cap6, rfl, hN6, hB6⟩
            have HB6 := Lib.hid (HB5.out.trans (hB6.mono HB5.out.size))
            have HN6 : Hid (NewB wo.heap.size w6 (lzwE sz l).length A6 cap6 (gz (lzwE sz l))) := by
              rw [HLEN.out]
              exact Lib.hid ⟨hN6.le, hN6.max, hN6.nil, hN6.byt, (fun a ha => Nat.le_trans HB5.out.size (hN6.far a ha)), hN6.lt, hN6.form⟩
            clear hN6 hB6
            rw [← HLEN.out]
            go_wp2
            go_ret2
            exact ⟨A6, cap6, rfl, HN6.out, HB6.out⟩
end Go.Proofs.Ytlgoohhfpmomhaa

namespace Go.Proofs.Ytlgoohhfpmomhaa
set_option maxRecDepth 100000
set_option linter.unusedVariables false
open Go.ChangeShapes Go.WideShapes Go.ChangeAt Go.RowKit

theorem cl_bound {sz : Nat} (h1 : 2 ≤ sz) (h2 : sz ≤ 8) : 4 ≤ 2 ^ sz ∧ 2 ^ sz ≤ 256 := ⟨Nat.pow_le_pow_right (n := 2) (i := 2) (by omega) h1, Nat.pow_le_pow_right (n := 2) (j := 8) (by omega) h2⟩
set_option maxRecDepth 100000 in
set_option maxHeartbeats 2000000 in
theorem write_bad (A : Option Addr) (n cap : Nat) (b : Nat → Nat) (hbt : ∀ i, b i < 256) (sz : Nat) (h1 : 2 ≤ sz) (h2 : sz ≤ 8) (hn : n ≤ 2000000) (w : World) (hP : Byt w A n b) (p : Nat) (hp : p < n) (hpre : ∀ i, i < p → b i < 2 ^ sz) (hbad : 2 ^ sz ≤ b p) :
    Calls Try.prog 23 #[.slice A n cap, .int .i64 (sz : Nat)] w fun e w' => e = .returned (.tuple #[.slice none 0 0, .int .i64 1]) ∧ Hid (w = w') := by
  have hc256 := cl_bound h1 h2
  obtain ⟨cl, hcl⟩ : ∃ cl, cl = 2 ^ sz := ⟨_, rfl⟩
  rw [← hcl] at hpre hbad hc256
  have HA := Lib.hid hpre
  have HBad := Lib.hid hbad
  have d1 : decide (2 ≤ (sz : Int) ∧ (sz : Int) ≤ 8) = true := by simp; omega
  have hwp : wrap64 ((2 : Int) ^ sz) = (cl : Int) := by rw [wrap_pow sz (by omega), hcl]
  have HWP := Lib.hid hwp
  clear hcl hwp hpre hbad
  go_enter Try.func23, Try.ntmps23
  go_wp2_with fail
  refine (may_w (sz : Nat) _).mono ?_
  rintro e w1 ⟨rfl, rfl⟩
  rw [d1]
  clear d1
  go_wp2_with fail
  go_loop [19] (fun s19 => ∃ j : Nat, s19 = .int .i64 (j : Nat) ∧ j ≤ p) (fun s19 => n - (intOf s19).toNat)
  case atStart => exact ⟨0, rfl, by omega⟩
  case round =>
    obtain ⟨j, rfl, hj⟩ := hrel
    obtain ⟨bk, off, rfl, hbk, hcell⟩ := hP (by omega)
    have hc0 := hcell j (by omega)
    have hb1 := hbt j
    have hlt : j < n := by omega
    have hwp := HWP.out
    by_cases hjp : j < p
    · have hb2 := HA.out j hjp
      generalize b j = v at *
      have d2 : decide ((cl : Int) ≤ (v : Int)) = false := by simp; omega
      clear hcell
      go_wp2_with fail
      go_round
      case rel => exact ⟨j + 1, by go_num, by omega⟩
      case measure => simp [intOf]; omega
    · obtain rfl : p = j := by omega
      have hb2 := HBad.out
      generalize b p = v at *
      have d2 : decide ((cl : Int) ≤ (v : Int)) = true := by simp; omega
      clear hcell
      go_wp2_with fail
      go_ret2
      exact ⟨rfl, Lib.hid rfl⟩
set_option maxRecDepth 100000 in
set_option maxHeartbeats 2000000 in
theorem write_long (A : Option Addr) (n cap : Nat) (b : Nat → Nat) (hbt : ∀ i, b i < 256) (sz : Nat) (h1 : 2 ≤ sz) (h2 : sz ≤ 8) (hn : n ≤ 2000000) (hlong : 1048576 < n) (w : World) (hP : Byt w A n b) (hpre : ∀ i, i < n → b i < 2 ^ sz) :
    Calls Try.prog 23 #[.slice A n cap, .int .i64 (sz : Nat)] w fun e w' => e = .returned (.tuple #[.slice none 0 0, .int .i64 3]) ∧ Hid (w = w') := by
  have hc256 := cl_bound h1 h2
  obtain ⟨cl, hcl⟩ : ∃ cl, cl = 2 ^ sz := ⟨_, rfl⟩
  rw [← hcl] at hpre hc256
  have HA := Lib.hid hpre
  have d1 : decide (2 ≤ (sz : Int) ∧ (sz : Int) ≤ 8) = true := by simp; omega
  have hwp : wrap64 ((2 : Int) ^ sz) = (cl : Int) := by rw [wrap_pow sz (by omega), hcl]
  have HWP := Lib.hid hwp
  clear hcl hwp hpre
  go_enter Try.func23, Try.ntmps23
  go_wp2_with fail
  refine (may_w (sz : Nat) _).mono ?_
  rintro e w1 ⟨rfl, rfl⟩
  rw [d1]
  clear d1
  go_wp2_with fail
  go_loop [19] (fun s19 => ∃ j : Nat, s19 = .int .i64 (j : Nat) ∧ j ≤ n) (fun s19 => n - (intOf s19).toNat)
  case atStart => exact ⟨0, rfl, by omega⟩
  case round =>
    obtain ⟨j, rfl, hj⟩ := hrel
    obtain ⟨bk, off, rfl, hbk, hcell⟩ := hP (by omega)
    have hwp := HWP.out
    by_cases hlt : j < n
    · have hc0 := hcell j (by omega)
      have hb1 := hbt j
      have hb2 := HA.out j hlt
      generalize b j = v at *
      have d2 : decide ((cl : Int) ≤ (v : Int)) = false := by simp; omega
      clear hcell
      go_wp2_with fail
      go_round
      case rel => exact ⟨j + 1, by go_num, by omega⟩
      case measure => simp [intOf]; omega
    · obtain rfl : n = j := by omega
      have d3 : decide (1048576 < n) = true := by simp; omega
      clear hcell
      go_wp2_with fail
      go_ret2
      exact ⟨rfl, Lib.hid rfl⟩
end Go.Proofs.Ytlgoohhfpmomhaa

namespace Go.Proofs.Ytlgoohhfpmomhaa
set_option maxRecDepth 100000
set_option linter.unusedVariables false
open Go.ChangeShapes Go.WideShapes Go.ChangeAt Go.RowKit

theorem byt_new (w : World) (l : List Nat) (cs : Array Value) (hcs : cs.toList = cellsB l) : Byt (w.alloc (.cells cs 5)) (some ⟨w.heap.size, 0, none⟩) l.length (gz l) := fun hl =>
  ⟨_, 0, rfl, by simp, fun j hj => hp_cell (hp_new0 w _) (by
    rw [Nat.zero_add, ← Array.getElem?_toList, hcs]
    simp [cellsB, gz, hj])⟩
theorem aw_read : lzwV (gz [140, 10]) 2 2 9 = ([1, 2], 0) := by decide +kernel
theorem aw_len : (lzwE 2 [1, 2, 1, 2, 3]).length = 3 := by decide +kernel
theorem aw_back : lzwV (gz (lzwE 2 [1, 2, 1, 2, 3])) 3 2 9 = ([1, 2, 1, 2, 3], 0) := by decide +kernel
theorem aw_gz : (List.range 5).map (gz [1, 2, 1, 2, 3]) = [1, 2, 1, 2, 3] := by decide
theorem aw_s1 : ((strB 2 (gz [1, 2])).toList == [1, 2]) = true := by decide +kernel
theorem aw_s2 : ((strB 5 (gz [1, 2, 1, 2, 3])).toList == [1, 2, 1, 2, 3]) = true := by decide +kernel
theorem aw_all : ∀ i, i < 5 → gz [1, 2, 1, 2, 3] i < 2 ^ 2 := by decide
theorem gz_256 {l : List Nat} (h : l.all (· < 256) = true) (i : Nat) : gz l i < 256 := gz_lt (fun x hx => by simpa using List.all_eq_true.1 h x hx) i
theorem lzwE_lt (sz : Nat) (l : List Nat) (i : Nat) : gz (lzwE sz l) i < 256 := by
  refine gz_lt (fun x hx => ?_) i
  refine pack_lt' false _ (fun v hv => ?_) x hx
  have key : ∀ q : Ez × Option Nat, (∀ v ∈ q.1.bits, v < 2) → ∀ v ∈ endE (2 ^ sz) q, v < 2 := by
    rintro ⟨s, now⟩ hq v hv
    cases now with
    | none =>
      rcases List.mem_append.1 hv with h | h
      · exact hq v h
      · exact numB_lt _ _ _ v h
    | some k =>
      rcases List.mem_append.1 hv with h | h
      · rcases List.mem_append.1 h with h | h
        · exact hq v h
        · exact numB_lt _ _ _ v h
      · exact numB_lt _ _ _ v h
  have step : ∀ (q : Ez × Option Nat) (x : Nat), (∀ v ∈ q.1.bits, v < 2) → ∀ v ∈ (stepE (2 ^ sz) sz q x).1.bits, v < 2 := by
    rintro ⟨s, now⟩ x hq v hv
    unfold stepE at hv
    cases now with
    | none => exact hq v hv
    | some k =>
      dsimp only at hv
      split at hv
      · exact hq v hv
      · unfold Ez.add at hv
        split at hv
        · rcases List.mem_append.1 hv with h | h
          · exact hq v h
          · exact numB_lt _ _ _ v h
        · rcases List.mem_append.1 hv with h | h
          · rcases List.mem_append.1 h with h | h
            · exact hq v h
            · exact numB_lt _ _ _ v h
          · exact numB_lt _ _ _ v h
  have run : ∀ (m : List Nat) (q : Ez × Option Nat), (∀ v ∈ q.1.bits, v < 2) → ∀ v ∈ (m.foldl (stepE (2 ^ sz) sz) q).1.bits, v < 2 := by
    intro m
    induction m with
    | nil => intro q hq; exact hq
    | cons a m ih => intro q hq; exact ih _ (step q a hq)
  refine key _ (run l _ (fun v hv => ?_)) v hv
  have hv' : v ∈ ([] : List Nat) ++ numB false ((2 ^ sz : Nat) : Int) (sz + 1) := hv
  rw [List.nil_append] at hv'
  exact numB_lt _ _ _ v hv'
end Go.Proofs.Ytlgoohhfpmomhaa

namespace Go.Proofs.Ytlgoohhfpmomhaa
set_option maxRecDepth 100000
set_option linter.unusedVariables false
open Go.ChangeShapes Go.WideShapes Go.ChangeAt Go.RowKit

theorem finC_len (b : Nat → Nat) (n cl sz most : Nat) (k : Nat) : ∀ s : Cz, s.out.length ≤ most → (finC b n cl sz most k s).1.length ≤ most := by
  induction k with
  | zero => intro s _; simp [finC]
  | succ k ih =>
    intro s hs
    rw [finC]
    split
    · simp
    · split
      · exact ih _ hs
      · split
        · exact hs
        · split
          · simp
          · split
            · simp
            · exact ih _ (by show (s.out ++ _).length ≤ most; rw [List.length_append]; omega)
theorem lzwV_len (b : Nat → Nat) (n : Nat) (size most : Int) : (lzwV b n size most).1.length ≤ most.toNat := by
  unfold lzwV
  split
  · simp
  · exact finC_len _ _ _ _ _ _ _ (by simp [cz0])
end Go.Proofs.Ytlgoohhfpmomhaa
