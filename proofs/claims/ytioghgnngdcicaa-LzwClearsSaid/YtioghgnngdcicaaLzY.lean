/- A writer of GIF's codes: put, clear, add. -/
import Derived.Test.YtioghgnngdcicaaLzX
namespace Go.Proofs.Ytioghgnngdcicaa
set_option linter.unusedVariables false
open Go.ChangeShapes Go.WideShapes Go.ChangeAt Go.RowKit
open Go.Maps

def ZmP (x gl : Nat) (sz cl : Nat) (s : Ez) (S : List Nat) (w w' : World) : Prop := ∃ m ob S', Zm x gl m ob sz cl s S' w' ∧ More S S' w ∧ Chg S w w'
theorem pack_bytes (l : List Nat) (h : l.length ≤ 3900000) : (pack false l).1.length ≤ 500000 := by rw [pack_len]; omega
set_option maxRecDepth 100000 in
set_option maxHeartbeats 2000000 in
theorem zput (x gl m : Nat) (ob : Option Nat) (sz cl : Nat) (s : Ez) (S : List Nat) (c : Nat) (hc : c < 5000) (hbl : s.bits.length ≤ 3900000) (hwd : s.wd ≤ 12) (hnx : s.nx ≤ 4096) (w : World) (h : Zm x gl m ob sz cl s S w) :
    Calls Try.prog 38 #[.pointer (some ⟨x, 0, none⟩), .int .i64 (c : Nat)] w fun e w' => e = .returned (.tuple #[]) ∧ ZmP x gl sz cl (s.put c) S w w' := by
  have hb := h.box
  have c0 := hp_cell (j := 0) hb rfl
  have c2 := hp_cell (j := 2) hb rfl
  have HZ := Lib.hid h
  have hwr := h.wr
  clear hb h
  go_enter Try.func38, Try.ntmps38
  go_wp2_with fail
  go_still_tail 10, (by kernel_rfl)
  change wpList _ _ _ _ _ w.drew
  go_wp2_with fail
  refine (putL gl (.slice none 0 0) 0 (pack false s.bits).1 (pack false s.bits).2 ob (pack_bytes _ hbl) (c : Nat) (by unfold In64; omega) s.wd (by omega) _ (hwr.chg ((Chg.refl [] w).drew) (by simp) (by simp))).mono ?_
  rintro e w1 ⟨rfl, hC, ob', hW, hN⟩
  rw [putsL_pack] at hW
  obtain ⟨S1, hZ1, hM1, hC1⟩ := (HZ.out.below (Below.refl _ w).drew).put hC hW hN
  have hb1 := hZ1.box
  have k1 := hp_cell (j := 1) hb1 rfl
  have k2 := hp_cell (j := 2) hb1 rfl
  have k3 := hp_cell (j := 3) hb1 rfl
  have k5 := hp_cell (j := 5) hb1 rfl
  have kf := fun j => hp_froz hb1 j
  have hM1' : More S S1 w := hM1
  have hC1' : Chg S w w1 := ((Chg.refl S w).drew).trans hC1
  have HZ1 := Lib.hid hZ1
  have HM1 := Lib.hid hM1'
  have HC1 := Lib.hid hC1'
  have HB1 := Lib.hid hb1
  clear hb1 hZ1 hM1 hC1 hM1' hC1' hC hW hN hwr c0 c2
  cases hf : s.first with
  | true =>
    rw [hf] at k5
    go_wp2
    go_end0
    have hcx : Chg [x] w1 (w1.setCell ⟨x, 5, none⟩ (.bool false)) := (Chg.refl _ w1).set (.inl (by simp)) _ _
    have hz := HZ1.out.setX (f := false) hcx (heap_set HB1.out)
    have e1 : s.put c = ⟨s.bits ++ numB false (c : Nat) s.wd, s.wd, s.nx, s.tab, false⟩ := by unfold Ez.put; rw [hf]; rfl
    rw [e1]
    exact ⟨rfl, m, ob', S1, hz, HM1.out, HC1.out.trans2 hcx (fun k hk => by simp at hk; rw [hk]; exact .inl HZ.out.s1)⟩
  | false =>
    rw [hf] at k5
    have hW3 : W3 x 1 sz s.wd s.nx w1 := ⟨k1, k2, k3, kf⟩
    have HW3 := Lib.hid hW3
    clear hW3
    go_wp2_with fail
    refine (grow_w x 1 sz s.wd s.nx hwd hnx _ HW3.out).mono ?_
    rintro e w2 ⟨rfl, hS⟩
    have hb2 := hS.blk _ _ HB1.out
    have hz2 := HZ1.out.setX (wd := growB s.wd s.nx) (nx := growN s.nx) (f := s.first) hS.chg hb2
    have j5 : w2.cell? ⟨x, 5, none⟩ = some (.bool false) := by rw [← hf]; exact hp_cell (j := 5) hb2 rfl
    have jf := fun j => hp_froz hb2 j
    have HZ2 := Lib.hid hz2
    have HC2 := Lib.hid (HC1.out.trans2 hS.chg (fun k hk => by simp at hk; rw [hk]; exact .inl HZ.out.s1))
    have HB2 := Lib.hid hz2.box
    clear hS hb2 hz2 k1 k2 k3 k5 kf
    go_wp2
    go_end0
    have hcx : Chg [x] w2 (w2.setCell ⟨x, 5, none⟩ (.bool false)) := (Chg.refl _ w2).set (.inl (by simp)) _ _
    have hz := HZ2.out.setX (wd := growB s.wd s.nx) (nx := growN s.nx) (f := false) hcx (heap_set HB2.out)
    have e1 : s.put c = ⟨s.bits ++ numB false (c : Nat) s.wd, growB s.wd s.nx, growN s.nx, s.tab, false⟩ := by unfold Ez.put; rw [hf]; rfl
    rw [e1]
    exact ⟨rfl, m, ob', S1, hz, HM1.out, HC2.out.trans2 hcx (fun k hk => by simp at hk; rw [hk]; exact .inl HZ.out.s1)⟩
set_option maxRecDepth 100000 in
set_option maxHeartbeats 2000000 in
theorem zclear (x gl m : Nat) (ob : Option Nat) (sz cl : Nat) (hcl : Hid (cl = 2 ^ sz)) (hs : sz ≤ 8) (hc256 : cl ≤ 256) (s : Ez) (S : List Nat) (hbl : s.bits.length ≤ 3900000) (hwd : s.wd ≤ 12) (w : World) (h : Zm x gl m ob sz cl s S w) :
    Calls Try.prog 36 #[.pointer (some ⟨x, 0, none⟩)] w fun e w' => e = .returned (.tuple #[]) ∧ ZmP x gl sz cl (s.clear cl sz) S w w' := by
  have hb := h.box
  have c0 := hp_cell (j := 0) hb rfl
  have c1 := hp_cell (j := 1) hb rfl
  have c2 := hp_cell (j := 2) hb rfl
  have HZ := Lib.hid h
  have hwr := h.wr
  have hmm := @run_makeMap Try.prog
  clear hb h
  go_enter Try.func36, Try.ntmps36
  go_wp2_with fail
  go_still_tail 13, (by kernel_rfl)
  still_call (clear_s x 1 sz cl hs hcl _ (by exact c1))
  repeat still_step
  refine wpStill_nil ?_
  change wpList _ _ _ _ _ w.drew
  go_wp2_with fail
  refine (putL gl (.slice none 0 0) 0 (pack false s.bits).1 (pack false s.bits).2 ob (pack_bytes _ hbl) (cl : Nat) (by unfold In64; omega) s.wd (by omega) _ (hwr.chg ((Chg.refl [] w).drew) (by simp) (by simp))).mono ?_
  rintro e w1 ⟨rfl, hC, ob', hW, hN⟩
  rw [putsL_pack] at hW
  obtain ⟨S1, hZ1, hM1, hC1⟩ := (HZ.out.below (Below.refl _ w).drew).put hC hW hN
  have hb1 := hZ1.box
  have hM1' : More S S1 w := hM1
  have hC1' : Chg S w w1 := ((Chg.refl S w).drew).trans hC1
  have hW3 : W3 x 1 sz s.wd s.nx w1 := ⟨hp_cell (j := 1) hb1 rfl, hp_cell (j := 2) hb1 rfl, hp_cell (j := 3) hb1 rfl, fun j => hp_froz hb1 j⟩
  have HZ1 := Lib.hid hZ1
  have HM1 := Lib.hid hM1'
  have HC1 := Lib.hid hC1'
  have HB1 := Lib.hid hb1
  have HW3 := Lib.hid hW3
  clear hb1 hZ1 hM1 hC1 hM1' hC1' hC hW hN hwr c0 c1 c2 hW3
  go_wp2_with fail
  refine (reset_w x 1 sz s.wd s.nx hs _ HW3.out).mono ?_
  rintro e w2 ⟨rfl, hS⟩
  have hb2 := hS.blk _ _ HB1.out
  have hz2 := HZ1.out.setX (wd := sz + 1) (nx := 2 ^ sz + 2) (f := s.first) hS.chg hb2
  have j4 := hp_cell (j := 4) hz2.box rfl
  have j5 := hp_cell (j := 5) hz2.box rfl
  have jf := fun j => hp_froz hz2.box j
  have hx2 := hz2.sl x hz2.s1
  have HZ2 := Lib.hid hz2
  have HC2 := Lib.hid (HC1.out.trans2 hS.chg (fun k hk => by simp at hk; rw [hk]; exact .inl HZ.out.s1))
  have HB2 := Lib.hid hz2.box
  clear hS hb2 hz2
  go_wp2
  go_end0
  have hcx : Chg [x] w2 (((w2.setCell ⟨x, 4, none⟩ (.map (some w2.heap.size))).setCell ⟨x, 5, none⟩ (.bool true)).alloc (.map #[] 0)) := ((((Chg.refl _ w2).set (.inl (by simp)) _ _).set (.inl (by simp)) _ _).alloc _)
  have hsz2 : ((w2.setCell ⟨x, 4, none⟩ (.map (some w2.heap.size))).setCell ⟨x, 5, none⟩ (.bool true)).heap.size = w2.heap.size := by simp [World.setCell]
  have hmade := World.ownsMap_made (H := Unit) ((w2.setCell ⟨x, 4, none⟩ (.map (some w2.heap.size))).setCell ⟨x, 5, none⟩ (.bool true)) Try.prog 81 (plainElem Try.prog 3)
  rw [hsz2] at hmade
  obtain ⟨S3, hZ3, hM3, hC3⟩ := HZ2.out.newMap (wd := sz + 1) (nx := 2 ^ sz + 2) (f := true) (Nat.le_refl _) hcx (by simp) hmade (hp_alloc _ (heap_set (heap_set HB2.out)))
  have e1 : s.clear cl sz = ⟨s.bits ++ numB false (cl : Nat) s.wd, sz + 1, 2 ^ sz + 2, [], true⟩ := by unfold Ez.clear; rw [← hcl.out]
  rw [e1]
  exact ⟨rfl, _, ob', S3, hZ3, HM1.out.trans hM3 HC2.out.size, HC2.out.trans2 hC3 HM1.out⟩
theorem own_mapN {P : Program} {k : TypeId} {R : Value → Option (DataW Unit × List MemPlace)} {w : World} {b n n' : Nat} {D : DataW Unit} (h : n = n') (ho : w.ownsMap P k R b n D) : w.ownsMap P k R b n' D := by subst h; exact ho
theorem put_nx {s : Ez} (c : Nat) (h : s.nx ≤ 4096) : (s.put c).nx ≤ 4096 := by
  unfold Ez.put growN
  dsimp only
  split <;> (try split) <;> omega
theorem put_wd {s : Ez} (c : Nat) (h : s.wd ≤ 12) : (s.put c).wd ≤ 12 := by
  unfold Ez.put growB
  dsimp only
  split <;> (try split) <;> omega
theorem put_bits (s : Ez) (c : Nat) (h : s.wd ≤ 12) : (s.put c).bits.length ≤ s.bits.length + 12 := by
  show (s.bits ++ numB false (c : Nat) s.wd).length ≤ _
  rw [List.length_append, numB_len]
  omega
set_option maxRecDepth 100000 in
set_option maxHeartbeats 2000000 in
theorem zadd (x gl m : Nat) (ob : Option Nat) (sz cl : Nat) (hcl : Hid (cl = 2 ^ sz)) (hs : sz ≤ 8) (hc256 : cl ≤ 256) (s : Ez) (S : List Nat) (c v : Nat) (hc : c < 5000) (hv : v < 256) (hn : (c, v) ∉ s.tab) (hbl : s.bits.length ≤ 3800000) (hwd : s.wd ≤ 12) (hnx : s.nx ≤ 4096) (htl : s.tab.length ≤ 5000) (w : World) (h : Zm x gl m ob sz cl s S w) :
    Calls Try.prog 37 #[.pointer (some ⟨x, 0, none⟩), .int .i64 (c : Nat), .int .u8 (v : Nat)] w fun e w' => e = .returned (.tuple #[]) ∧ ZmP x gl sz cl (s.add cl sz c v) S w w' := by
  have HZ := Lib.hid h
  go_enter Try.func37, Try.ntmps37
  go_wp2_with fail
  refine (zput x gl m ob sz cl s S c hc (by omega) hwd hnx _ h).mono ?_
  rintro e w1 ⟨rfl, m1, ob1, S1, hZ1, hM1, hC1⟩
  have hb1 := hZ1.box
  obtain ⟨D, hmap, hE⟩ := hZ1.map
  have htab : (s.put c).tab = s.tab := rfl
  rw [htab] at hmap hE
  have k1 := hp_cell (j := 1) hb1 rfl
  have k4 := hp_cell (j := 4) hb1 rfl
  have hlen : ∀ n, (Builtin.len_ #[77] 3 #[.map (some m1)]).run Try.prog (w1.drewN n) = .ok (.int .i64 (s.tab.length : Nat)) (w1.drewN n) := fun n => by
    have := World.ownsMap.len (w := w1.drewN n) (t := 77) hmap Try.underlying77 3
    rw [this, hE.2.1]
  have hlen0 : ∀ n, (Builtin.len_ #[77] 3 #[.map (some m1)]).run Try.prog (w1.drewN n).drew = .ok (.int .i64 (s.tab.length : Nat)) (w1.drewN n).drew := fun n => hlen (n + 1)
  have HZ1 := Lib.hid hZ1
  have HM1 := Lib.hid hM1
  have HC1 := Lib.hid hC1
  have HMAP := Lib.hid hmap
  have HE := Lib.hid hE
  clear hb1 hZ1 hM1 hC1 hmap hE h htab
  go_wp2_with fail
  go_quiet ((go_at_call 40; exact Calls.quiet_of_same (clear_s x 1 sz cl hs hcl _ (by exact k1))))
  obtain ⟨wq, hwq⟩ : ∃ wq, wq = w1.drewN nq := ⟨_, rfl⟩
  have HZq : Hid (Zm x gl m1 ob1 sz cl (s.put c) S1 wq) := by rw [hwq]; exact Lib.hid (HZ1.out.below (below_drewN (Below.refl _ w1) nq))
  have HCq : Hid (Chg S w wq) := by rw [hwq]; exact Lib.hid (HC1.out.drewN nq)
  have hmq : wq.ownsMap Try.prog 81 (plainElem Try.prog 3) m1 s.tab.length D := by rw [hwq]; exact HMAP.out
  have hsq : Hid (wq.heap.size = w1.heap.size) := by rw [hwq]; exact Lib.hid rfl
  rw [← hwq]
  clear hwq k1 k4 hlen hlen0
  have q4 := hp_cell (j := 4) HZq.out.box rfl
  by_cases hfull : cl + 2 + s.tab.length < 4096
  · have d1 : decide ((cl : Int) + 2 + (s.tab.length : Int) < 4096) = true := by simp; omega
    have hkey := key_eV (c : Nat) v (by omega) hv
    obtain ⟨Wm, hrun, hown, hg⟩ := World.ownsMap.update (val := .int .i64 ((cl : Int) + 2 + (s.tab.length : Int))) hmq keyed81 Try.underlying77 (by unfold maxLen; omega) hkey (plainElem_int Try.underlying3 (WalkArith.wf_i64 (by omega)))
    simp only [eV] at hrun
    have hE2 := HE.out.put (World.ownsMap.tidy hmq keyed81) (c := c) (v := v) (by omega) hv hn
    have hcm : Chg [m1] wq Wm := Chg.grown hg (fun r hr => by injection hr with hr; simp [hr])
    obtain ⟨n1, n2, n3, n4, n5⟩ := HZq.out.ne
    have hZ2 : Zm x gl m1 ob1 sz cl (s.add cl sz c v) S1 Wm := by
      have e1 : s.add cl sz c v = ⟨(s.put c).bits, (s.put c).wd, (s.put c).nx, s.tab ++ [(c, v)], false⟩ := by unfold Ez.add; rw [if_pos hfull]
      rw [e1]
      refine ⟨hp_chg HZq.out.box hcm (by simpa using fun e => n2 e.symm), HZq.out.wr.chg hcm (by simpa using fun e => n3 e.symm) (fun k hk hm => by simp at hm; rw [hm] at hk; exact n5 hk), ⟨_, own_mapN (by simp) hown, by rw [show ((cl : Int) + 2 + (s.tab.length : Int)) = ((cl + 2 + s.tab.length : Nat) : Int) by omega]; exact hE2⟩, fun y hy => ?_, HZq.out.ne, HZq.out.s1, HZq.out.s2, HZq.out.s3, HZq.out.s4, fun k hk => Nat.lt_of_lt_of_le (HZq.out.sl k hk) hcm.size⟩
      rcases List.mem_append.1 hy with h1 | h1
      · exact HZq.out.twf y h1
      · rw [List.mem_singleton.1 h1]; exact ⟨by omega, hv⟩
    have HZ2 := Lib.hid hZ2
    have HC2 := Lib.hid (HCq.out.trans2 hcm (fun k hk => by simp at hk; rw [hk]; exact HM1.out m1 HZq.out.s3))
    have HRUN := Lib.hid hrun
    clear hZ2 hE2 hown hg hcm hmq hn hkey
    go_wp2
    refine bodyPost_ret (v := .tuple #[]) (by simp [results, Try.results37, go_sem]) rfl ?_
    exact ⟨rfl, m1, ob1, S1, HZ2.out, HM1.out, HC2.out⟩
  · have d1 : decide ((cl : Int) + 2 + (s.tab.length : Int) < 4096) = false := by simp; omega
    have hwd' := put_wd (s := s) c hwd
    have hbt := put_bits s c hwd
    have e1 : s.add cl sz c v = (s.put c).clear cl sz := by unfold Ez.add; rw [if_neg hfull]
    have E1 := Lib.hid e1
    clear e1
    have hq0 := HZq.out
    clear hmq
    go_wp2_with fail
    refine (zclear x gl m1 ob1 sz cl hcl hs hc256 (s.put c) S1 (by omega) hwd' _ hq0).mono ?_
    rintro e w3 ⟨rfl, m3, ob3, S3, hZ3, hM3, hC3⟩
    have HZ3 := Lib.hid hZ3
    have HM3 := Lib.hid (HM1.out.trans hM3 HCq.out.size)
    have HC3 := Lib.hid (HCq.out.trans2 hC3 (fun k hk => HM1.out k hk))
    clear hZ3 hM3 hC3 hq0
    go_wp2
    go_end0
    rw [E1.out]
    exact ⟨rfl, m3, ob3, S3, HZ3.out, HM3.out, HC3.out⟩
end Go.Proofs.Ytioghgnngdcicaa
