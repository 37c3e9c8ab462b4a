/- lzw.Write. -/
import Derived.Test.YtioghgnngdcicaaLzB
import Derived.Deep.LoopGhost
namespace Go.Proofs.Ytioghgnngdcicaa
set_option linter.unusedVariables false
open Go.ChangeShapes Go.WideShapes Go.ChangeAt Go.RowKit
open Go.Maps

/-- What holds of a writer behind j values. -/
structure InvE (cl : Nat) (q : Ez × Option Nat) (j : Nat) : Prop where
  wd : q.1.wd ≤ 12
  nx : q.1.nx ≤ 4096
  tl : cl + 2 + q.1.tab.length ≤ 4096
  bl : q.1.bits.length ≤ 24 * j + 12
  now : ∀ k, q.2 = some k → k < 4096
theorem inv_clear {s : Ez} {cl sz : Nat} (hs : sz ≤ 8) (hc : cl ≤ 256) {j : Nat} (h : s.bits.length ≤ j) (hwd : s.wd ≤ 12) : (s.clear cl sz).wd ≤ 12 ∧ (s.clear cl sz).nx ≤ 4096 ∧ cl + 2 + (s.clear cl sz).tab.length ≤ 4096 ∧ (s.clear cl sz).bits.length ≤ j + 12 := by
  unfold Ez.clear
  refine ⟨by show sz + 1 ≤ 12; omega, by show cl + 2 ≤ 4096; omega, by show cl + 2 + 0 ≤ 4096; omega, ?_⟩
  show (s.bits ++ numB false (cl : Nat) s.wd).length ≤ _
  rw [List.length_append, numB_len]
  omega
theorem inv0 {cl sz : Nat} (hs : sz ≤ 8) (hc : cl ≤ 256) : InvE cl (ez0 cl sz, none) 0 := by
  obtain ⟨h1, h2, h3, h4⟩ := inv_clear (s := ⟨[], sz + 1, cl + 2, [], true⟩) (j := 0) hs hc (by simp) (by show sz + 1 ≤ 12; omega)
  exact ⟨h1, h2, h3, by unfold ez0; omega, (fun k h => by cases h)⟩
theorem inv_step {cl sz : Nat} (hs : sz ≤ 8) (hc : cl ≤ 256) {q : Ez × Option Nat} {j v : Nat} (h : InvE cl q j) (hv : v < 256) : InvE cl (stepE cl sz q v) (j + 1) := by
  obtain ⟨s, now⟩ := q
  obtain ⟨h1, h2, h3, h4, h5⟩ := h
  simp only at h1 h2 h3 h4 h5
  unfold stepE
  cases now with
  | none => exact ⟨h1, h2, h3, by show s.bits.length ≤ _; omega, fun k hk => by injection hk with hk; omega⟩
  | some k =>
    dsimp only
    by_cases hm : (k, v) ∈ s.tab
    · rw [if_pos hm]
      have := List.idxOf_lt_length_of_mem hm
      exact ⟨h1, h2, h3, by show s.bits.length ≤ _; omega, fun k' hk => by injection hk with hk; omega⟩
    · rw [if_neg hm]
      have b1 := put_bits s k h1
      have b2 := put_wd (s := s) k h1
      have b3 := put_nx (s := s) k h2
      unfold Ez.add
      by_cases hf : cl + 2 + s.tab.length < 4096
      · rw [if_pos hf]
        exact ⟨b2, b3, by simp; omega, by show (s.put k).bits.length ≤ _; omega, fun k' hk => by injection hk with hk; omega⟩
      · rw [if_neg hf]
        obtain ⟨g1, g2, g3, g4⟩ := inv_clear (s := s.put k) (sz := sz) hs hc b1 b2
        exact ⟨g1, g2, g3, by show ((s.put k).clear cl sz).bits.length ≤ _; omega, fun k' hk => by injection hk with hk; omega⟩
theorem inv_run {cl sz : Nat} (hs : sz ≤ 8) (hc : cl ≤ 256) (l : List Nat) (h : ∀ v ∈ l, v < 256) : InvE cl (runE cl sz l) l.length := by
  have key : ∀ (m : List Nat) (q : Ez × Option Nat) (j : Nat), InvE cl q j → (∀ v ∈ m, v < 256) → InvE cl (m.foldl (stepE cl sz) q) (j + m.length) := by
    intro m
    induction m with
    | nil => intro q j hq _; exact hq
    | cons v m ih =>
      intro q j hq hm
      rw [List.foldl_cons, List.length_cons, show j + (m.length + 1) = (j + 1) + m.length by omega]
      exact ih _ _ (inv_step hs hc hq (hm v (by simp))) (fun u hu => hm u (by simp [hu]))
  have := key l (ez0 cl sz, none) 0 (inv0 hs hc) h
  rwa [Nat.zero_add] at this
theorem runE_snoc (cl sz : Nat) (l : List Nat) (v : Nat) : runE cl sz (l ++ [v]) = stepE cl sz (runE cl sz l) v := by simp [runE]
def nowI (o : Option Nat) : Int := match o with | none => -1 | some k => (k : Nat)
theorem bytes_take (b : Nat → Nat) (n j : Nat) (h : j < n) : ((List.range n).map b).take (j + 1) = ((List.range n).map b).take j ++ [b j] := by
  rw [List.take_add_one, List.getElem?_eq_getElem (by simpa using h)]
  simp
theorem wrap_pow1 (k : Nat) (h : k ≤ 12) : wrap64 (1 * (2 : Int) ^ k) = ((2 ^ k : Nat) : Int) := by rw [Int.one_mul]; exact wrap_pow k h
set_option maxRecDepth 100000 in
set_option maxHeartbeats 1000000 in
theorem write_no (A : Option Addr) (n cap : Nat) (size : Int) (h : ¬ (2 ≤ size ∧ size ≤ 8)) (w : World) :
    Calls Try.prog 19 #[.slice A n cap, .int .i64 size] w fun e w' => e = .returned (.tuple #[.slice none 0 0, .int .i64 1]) ∧ w = w' := by
  have d1 : decide (2 ≤ size ∧ size ≤ 8) = false := by simp; omega
  go_enter Try.func19, Try.ntmps19
  go_wp2_with fail
  refine (may_w size _).mono ?_
  rintro e w1 ⟨rfl, rfl⟩
  rw [d1]
  go_wp2
  go_ret2
  exact ⟨rfl, rfl⟩
theorem hzE (w : World) : (zeroValue 3).run Try.prog w = .ok (.int .i64 0) w := by kernel_rfl
theorem lit_inj {x y : Int} (h : (DataW.lit (.int .i64 x) : DataW Unit) = .lit (.int .i64 y)) : x = y := by injection h with h; injection h
/-- A round of the writer. -/
def WrR (w0 : World) (x gl sz cl : Nat) (l : List Nat) (j : Nat) (s9 : Value) (w : World) : Prop :=
  ∃ m ob S, s9 = .int .i64 (nowI (runE cl sz (l.take j)).2) ∧ Zm x gl m ob sz cl (runE cl sz (l.take j)).1 S w ∧ (∀ k ∈ S, w0.heap.size ≤ k) ∧ Below w0.heap.size w0 w
set_option maxRecDepth 100000 in
set_option maxHeartbeats 4000000 in
theorem write_any (A : Option Addr) (n cap : Nat) (b : Nat → Nat) (hbt : ∀ i, b i < 256) (sz : Nat) (h1 : 2 ≤ sz) (h2 : sz ≤ 8) (hn : n ≤ 100000) (w : World) (hP : Byt w A n b) (hall : ∀ i, i < n → b i < 2 ^ sz) :
    Calls Try.prog 19 #[.slice A n cap, .int .i64 (sz : Nat)] w fun e w' => ∃ A' cap', e = .returned (.tuple #[.slice A' (lzwE sz ((List.range n).map b)).length cap', .int .i64 0]) ∧ NewB w.heap.size w' (lzwE sz ((List.range n).map b)).length A' cap' (gz (lzwE sz ((List.range n).map b))) ∧ Below w.heap.size w w' := by
  obtain ⟨cl, hcl⟩ : ∃ cl, cl = 2 ^ sz := ⟨_, rfl⟩
  rw [← hcl] at hall
  have hc256 : 4 ≤ cl ∧ cl ≤ 256 := by
    rw [hcl]
    exact ⟨Nat.pow_le_pow_right (n := 2) (i := 2) (by omega) h1, Nat.pow_le_pow_right (n := 2) (j := 8) (by omega) h2⟩
  obtain ⟨l, hl⟩ : ∃ l, l = (List.range n).map b := ⟨_, rfl⟩
  rw [← hl]
  have hll : l.length = n := by rw [hl]; simp
  have HL := Lib.hid hl
  have HLL := Lib.hid hll
  have HCL := Lib.hid hcl
  have HA := Lib.hid hall
  have d1 : decide (2 ≤ (sz : Int) ∧ (sz : Int) ≤ 8) = true := by simp; omega
  have hwp : wrap64 ((2 : Int) ^ sz) = (cl : Int) := by rw [wrap_pow sz (by omega), hcl]
  have HWP := Lib.hid hwp
  clear hl hll hcl hall hwp
  go_enter Try.func19, Try.ntmps19
  go_wp2_with fail
  refine (may_w (sz : Nat) _).mono ?_
  rintro e w1 ⟨rfl, rfl⟩
  rw [d1]
  clear d1
  go_wp2_with fail
  go_loopw [19] (fun s19 wr => ∃ j : Nat, s19 = .int .i64 (j : Nat) ∧ j ≤ n ∧ Hid (wr = w)) (fun s19 _ => n - (intOf s19).toNat)
  case atStart => exact ⟨0, rfl, by omega, Lib.hid rfl⟩
  case round =>
    obtain ⟨j, rfl, hj, hwr⟩ := hrel
    obtain rfl := hwr.out
    by_cases hlt : j < n
    · obtain ⟨bk, off, rfl, hbk, hcell⟩ := hP (by omega)
      have hc0 := hcell j hlt
      have hb1 := hbt j
      have hb2 := HA.out j hlt
      generalize b j = v at *
      have d2 : decide ((cl : Int) ≤ (v : Int)) = false := by simp; omega
      have hwp := HWP.out
      clear hcell
      go_wp2_with fail
      go_roundw
      case rel => exact ⟨j + 1, by go_num, by omega, Lib.hid (by trivial)⟩
      case measure => simp [intOf]; omega
    · obtain rfl : n = j := by omega
      have d3 : decide ((1048576 : Int) < (n : Int)) = false := by simp; omega
      have d4 : decide (1048576 < n) = false := by simp; omega
      have hbits0 : ∀ j, (runE cl sz (l.take j)).1.bits.length ≤ 2500000 := fun j => by
        have := (inv_run (cl := cl) (sz := sz) h2 hc256.2 (l.take j) (fun v hv => by rw [HL.out] at hv; obtain ⟨i, _, rfl⟩ := List.mem_map.1 (List.mem_of_mem_take hv); exact hbt i)).bl
        have hl2 : (l.take j).length ≤ 100000 := by rw [List.length_take, HLL.out]; omega
        omega
      have hinv : ∀ j, InvE cl (runE cl sz (l.take j)) (l.take j).length := fun j => inv_run h2 hc256.2 (l.take j) (fun v hv => by rw [HL.out] at hv; obtain ⟨i, _, rfl⟩ := List.mem_map.1 (List.mem_of_mem_take hv); exact hbt i)
      have HBI := Lib.hid hbits0
      have HIN := Lib.hid hinv
      clear hbits0 hinv
      go_wp2_with fail
      obtain ⟨wB, hwB⟩ : ∃ wB, wB = (wr.alloc (.cells #[.slice none 0 0, .slice none 0 0, .int .i64 0, .int .i64 0] 76)).alloc (.cells #[.pointer (some ⟨wr.heap.size, 0, none⟩), .int .i64 (sz : Nat), .int .i64 0, .int .i64 0, .map none, .bool false] 79) := ⟨_, rfl⟩
      have hsB : wB.heap.size = wr.heap.size + 2 := by rw [hwB]; simp
      have hBB : Below wr.heap.size wr wB := by rw [hwB]; exact ((Below.refl _ wr).alloc (Nat.le_refl _) _).alloc (by simp) _
      have hbl : wB.heap[wr.heap.size]? = some (.cells #[.slice none 0 0, .slice none 0 0, .int .i64 0, .int .i64 0] 76 (0, 0)) := by rw [hwB]; exact hp_alloc _ (hp_new0 wr _)
      have hbx : wB.heap[wr.heap.size + 1]? = some (.cells #[.pointer (some ⟨wr.heap.size, 0, none⟩), .int .i64 (sz : Nat), .int .i64 0, .int .i64 0, .map none, .bool false] 79 (0, 0)) := by
        rw [hwB]
        have := hp_new0 (wr.alloc (.cells #[.slice none 0 0, .slice none 0 0, .int .i64 0, .int .i64 0] 76)) (.cells #[.pointer (some ⟨wr.heap.size, 0, none⟩), .int .i64 (sz : Nat), .int .i64 0, .int .i64 0, .map none, .bool false] 79)
        rwa [World.size_alloc] at this
      rw [← hwB]
      clear hwB
      have hzb : Zb (wr.heap.size + 1) wr.heap.size (.map none) none sz ⟨[], 0, 0, [], false⟩ [wr.heap.size + 1, wr.heap.size] wB :=
        ⟨hbx, ⟨⟨.slice none 0 0, hbl, World.ownsRow_nil _ _ _ _, rfl⟩, by show 0 < 8; omega, (fun h => absurd h (by show ¬ 0 < 0; omega)), (fun y hy => by simp [pack] at hy)⟩, by omega, by simp, by simp, by simp, (fun k h => by cases h), fun k hk => by simp at hk; omega⟩
      refine (reset_w (wr.heap.size + 1) 1 sz 0 0 h2 _ ⟨hp_cell (j := 1) hbx rfl, hp_cell (j := 2) hbx rfl, hp_cell (j := 3) hbx rfl, fun j => hp_froz hbx j⟩).mono ?_
      rintro e w2 ⟨rfl, hS⟩
      have hz2 := hzb.setX (wd := sz + 1) (nx := 2 ^ sz + 2) (f := false) hS.chg (hS.blk _ _ hbx)
      have hB2 : Below wr.heap.size wr w2 := hBB.trans (hS.chg.below (by omega) (by simp))
      have hS2 := hS.chg.size
      have HZ2 := Lib.hid hz2
      have HB2 := Lib.hid hB2
      clear hS hz2 hB2 hzb hbx hbl hBB
      go_wp2_with fail
      refine (zclearB (wr.heap.size + 1) wr.heap.size (.map none) (.inl rfl) none sz cl HCL h2 hc256.2 _ _ (by simp) (by show sz + 1 ≤ 12; omega) _ HZ2.out).mono ?_
      rintro e w3 ⟨rfl, m3, ob3, S3, hz3, hM3, hC3⟩
      have h0 : WrR wr (wr.heap.size + 1) wr.heap.size sz cl l 0 (.int .i64 (-1)) w3 := by
        refine ⟨m3, ob3, S3, rfl, ?_, fun k hk => ?_, HB2.out.trans (hC3.below (by omega) (by simp))⟩
        · rw [List.take_zero]
          exact hz3
        · rcases hM3 k hk with h | h
          · simp at h; omega
          · omega
      have H0 := Lib.hid h0
      clear hz3 hM3 hC3 h0
      go_wp2_with fail
      obtain ⟨wo, rfl⟩ : ∃ wo : World, wo = wr := ⟨_, rfl⟩
      go_loopw [9, 46] (fun s9 s46 wx => ∃ j : Nat, s46 = .int .i64 (j : Nat) ∧ j ≤ n ∧ WrR wo (wo.heap.size + 1) wo.heap.size sz cl l j s9 wx) (fun _ s46 _ => n - (intOf s46).toNat)
      case atStart => exact ⟨0, rfl, by omega, H0.out⟩
      case round =>
        obtain ⟨j, rfl, hj, m, ob, S, rfl, hz, hSS, hB⟩ := hrel
        have hiv := HIN.out j
        obtain ⟨q, hq⟩ : ∃ q, q = runE cl sz (l.take j) := ⟨_, rfl⟩
        rw [← hq] at hz hiv ⊢
        have hbj : q.1.bits.length ≤ 2500000 := by rw [hq]; exact HBI.out j
        have HQ := Lib.hid hq
        obtain ⟨i1, i2, i3, i4, i5⟩ := hiv
        clear hq
        by_cases hlt : j < n
        · have hstep : runE cl sz (l.take (j + 1)) = stepE cl sz q (b j) := by
            rw [HL.out, bytes_take b n j hlt, runE_snoc, ← HL.out, ← HQ.out]
          obtain ⟨bk, off, rfl, hbk, hcell⟩ := (hP.below hB) (by omega)
          have hc0 := hcell j hlt
          have hv := hbt j
          generalize b j = v at *
          have hbx := hz.box
          have c4 := hp_cell (j := 4) hbx rfl
          obtain ⟨D, hmap, hE⟩ := hz.map
          have HST := Lib.hid hstep
          have HZ := Lib.hid hz
          have HSS := Lib.hid hSS
          have HB := Lib.hid hB
          have HE := Lib.hid hE
          clear hcell hstep hz hSS hB hbx hE
          obtain ⟨s, now⟩ := q
          simp only at i1 i2 i3 i4 i5 hbj
          cases now with
          | none =>
            have hkey := key_eV (-1) v (by omega) hv
            have hhas := HE.out.2.2.1 v hv
            have hw : Hid (WrR wo (wo.heap.size + 1) wo.heap.size sz cl l (j + 1) (.int .i64 (v : Nat)) wr) := by
              refine Lib.hid ⟨m, ob, S, ?_, ?_, HSS.out, HB.out⟩
              · rw [HST.out]; rfl
              · rw [HST.out]; exact HZ.out
            go_wp2_with (at_lookup; refine wpList_lookup_own_ok_int _ rfl _ _ 77 rfl 81 3 .i64 keyed81 Try.underlying77 Try.underlying3 (hzE _) m _ D rfl hmap (eV (-1) v) _ rfl hkey ?_; intro cv hatc hwc; rw [hhas]; clear hatc hwc)
            go_roundw
            case rel => exact ⟨j + 1, by go_num, by omega, hw.out⟩
            case measure => simp [intOf]; omega
          | some k =>
            have hk4 : k < 4096 := i5 k rfl
            have hkey := key_eV (k : Nat) v (by omega) hv
            obtain ⟨hh1, hh2⟩ := HE.out.2.2.2 k v (by omega) hv
            have n1 : ((k : Int) == -1) = false := by rw [beq_eq_false_iff_ne]; omega
            by_cases hmem : (k, v) ∈ s.tab
            · have hidx := List.idxOf_lt_length_of_mem hmem
              have hhas : Maps.has D (klE k v) = true := by rw [hh1]; simpa using hmem
              have hat := hh2 hmem
              have hw : Hid (WrR wo (wo.heap.size + 1) wo.heap.size sz cl l (j + 1) (.int .i64 ((cl + 2 + s.tab.idxOf (k, v) : Nat) : Int)) wr) := by
                refine Lib.hid ⟨m, ob, S, ?_, ?_, HSS.out, HB.out⟩
                · rw [HST.out]; unfold stepE; simp only [if_pos hmem]; rfl
                · rw [HST.out]; unfold stepE; simp only [if_pos hmem]; exact HZ.out
              have HAT := Lib.hid hat
              generalize s.tab.idxOf (k, v) = ix at *
              clear hh1 hh2 hmem hat
              go_wp2_with (at_lookup; refine wpList_lookup_own_ok_int _ rfl _ _ 77 rfl 81 3 .i64 keyed81 Try.underlying77 Try.underlying3 (hzE _) m _ D rfl hmap (eV k v) _ rfl hkey ?_; intro cv hatc hwc; rw [hhas]; obtain rfl := lit_inj (HAT.out.symm.trans hatc); clear hatc hwc)
              go_roundw
              case rel => exact ⟨j + 1, by go_num, by omega, hw.out⟩
              case measure => simp [intOf]; omega
            · have hhas : Maps.has D (klE k v) = false := by rw [hh1]; simpa using hmem
              clear hh1 hh2
              go_wp2_with (at_lookup; refine wpList_lookup_own_ok_int _ rfl _ _ 77 rfl 81 3 .i64 keyed81 Try.underlying77 Try.underlying3 (hzE _) m _ D rfl hmap (eV k v) _ rfl hkey ?_; intro cv hatc hwc; rw [hhas]; clear hatc hwc)
              refine (zadd (wo.heap.size + 1) wo.heap.size m ob sz cl HCL h2 hc256.2 s S k v (by omega) hv hmem (by omega) i1 i2 (by omega) _ HZ.out).mono ?_
              rintro e w9 ⟨rfl, m9, ob9, S9, hz9, hM9, hC9⟩
              have hw : Hid (WrR wo (wo.heap.size + 1) wo.heap.size sz cl l (j + 1) (.int .i64 (v : Nat)) w9) := by
                refine Lib.hid ⟨m9, ob9, S9, ?_, ?_, fun y hy => ?_, HB.out.trans (hC9.below HB.out.size HSS.out)⟩
                · rw [HST.out]; unfold stepE; simp only [if_neg hmem]; rfl
                · rw [HST.out]; unfold stepE; simp only [if_neg hmem]; exact hz9
                · rcases hM9 y hy with h | h
                  · exact HSS.out y h
                  · exact Nat.le_trans HB.out.size h
              clear hz9 hM9 hC9 hmem
              go_wp2_with fail
              go_roundw
              case rel => exact ⟨j + 1, by go_num, by omega, hw.out⟩
              case measure => simp [intOf]; omega
        · obtain rfl : n = j := by omega
          have htk : l.take n = l := List.take_of_length_le (by rw [HLL.out]; exact Nat.le_refl _)
          have hrun : q = runE cl sz l := by rw [HQ.out, htk]
          have HR := Lib.hid hrun
          have HSS := Lib.hid hSS
          have HB := Lib.hid hB
          have HZ := Lib.hid hz
          have hbx := hz.box
          clear hrun hSS hB hz htk
          obtain ⟨s, now⟩ := q
          simp only at i1 i2 i3 i4 i5 hbj
          cases now with
          | none =>
            have hE0 : endE cl (s, none) = s.bits ++ numB false ((cl + 1 : Nat) : Int) s.wd := rfl
            have hlen : lzwE sz l = (pack false (s.bits ++ numB false ((cl + 1 : Nat) : Int) s.wd)).1 := by
              unfold lzwE
              rw [← HCL.out, ← HR.out, hE0]
            have HLEN := Lib.hid hlen
            clear hE0 hlen
            have p0 := hp_cell (j := 0) hbx rfl
            have p1 := hp_cell (j := 1) hbx rfl
            have p2 := hp_cell (j := 2) hbx rfl
            have hwr := HZ.out.wr
            go_wp2_with fail
            go_still_tail 14, (by kernel_rfl)
            still_call (clear_s (wo.heap.size + 1) 1 sz cl h2 HCL _ (by exact p1))
            repeat still_step
            refine wpStill_nil ?_
            change wpList _ _ _ _ _ (World.drew _)
            go_wp2_with fail
            rw [show ((cl : Int) + 1) = ((cl + 1 : Nat) : Int) by omega]
            refine (putL wo.heap.size (.slice none 0 0) 0 (pack false s.bits).1 (pack false s.bits).2 ob (pack_bytes _ (by omega)) ((cl + 1 : Nat) : Int) (by unfold In64; omega) s.wd (by omega) _ (hwr.chg ((Chg.refl [] _).drew) (by simp) (by simp))).mono ?_
            rintro e w5 ⟨rfl, hC5, ob5, hW5, hN5⟩
            rw [putsL_pack] at hW5
            obtain ⟨S5, hZ5, hM5, hC5'⟩ := (HZ.out.below (Below.refl _ _).drew).put hC5 hW5 hN5
            have p0' := hp_cell (j := 0) hZ5.box rfl
            have hwr5 := hZ5.wr
            have hB5 : Below wo.heap.size wo w5 := (HB.out.drew).trans (hC5'.below HB.out.size HSS.out)
            have HB5 := Lib.hid hB5
            have HW5 := Lib.hid hwr5
            have hlb : (pack false (s.bits ++ numB false ((cl + 1 : Nat) : Int) s.wd)).1.length ≤ 500000 := pack_bytes _ (by rw [List.length_append, numB_len]; omega)
            clear hZ5 hM5 hC5 hC5' hB5 hwr5 hwr hW5 hN5 p0 p1 p2
            go_wp2_with fail
            refine (outL wo.heap.size (.slice none 0 0) 0 _ _ ob5 (by omega) _ HW5.out).mono ?_
            rintro e w6 ⟨A6, cap6, rfl, hN6, hB6⟩
            have HB6 := Lib.hid (HB5.out.trans (hB6.mono HB5.out.size))
            have HN6 : Hid (NewB wo.heap.size w6 (lzwE sz l).length A6 cap6 (gz (lzwE sz l))) := by
              rw [HLEN.out]
              exact Lib.hid ⟨hN6.le, hN6.max, hN6.nil, hN6.byt, (fun a ha => Nat.le_trans HB5.out.size (hN6.far a ha)), hN6.lt, hN6.form⟩
            clear hN6 hB6
            rw [← HLEN.out]
            go_wp2
            go_ret2
            exact ⟨A6, cap6, rfl, HN6.out, HB6.out⟩
          | some k =>
            have hk4 : k < 4096 := i5 k rfl
            have n1 : ((k : Int) != -1) = true := by rw [bne_iff_ne]; omega
            go_wp2_with fail
            refine (zput (wo.heap.size + 1) wo.heap.size m ob sz cl s S k (by omega) (by omega) i1 i2 _ HZ.out).mono ?_
            rintro e w4 ⟨rfl, m4, ob4, S4, hz4, hM4, hC4⟩
            have b1 := put_bits s k i1
            have b2 := put_wd (s := s) k i1
            have hbx4 := hz4.box
            have HZ4 := Lib.hid hz4
            have HB4 := Lib.hid (HB.out.trans (hC4.below HB.out.size HSS.out))
            have HSS4 := Lib.hid (show ∀ y ∈ S4, wo.heap.size ≤ y from fun y hy => by
              rcases hM4 y hy with h | h
              · exact HSS.out y h
              · exact Nat.le_trans HB.out.size h)
            clear hz4 hM4 hC4 hbx
            have hbx := hbx4
            clear hbx4
            obtain ⟨s4, hs4⟩ : ∃ s4, s4 = s.put k := ⟨_, rfl⟩
            rw [← hs4] at hbx b1 b2 HZ4
            have hE0 : endE cl (s, some k) = s4.bits ++ numB false ((cl + 1 : Nat) : Int) s4.wd := by rw [hs4]; rfl
            have hlen : lzwE sz l = (pack false (s4.bits ++ numB false ((cl + 1 : Nat) : Int) s4.wd)).1 := by
              unfold lzwE
              rw [← HCL.out, ← HR.out, hE0]
            have HLEN := Lib.hid hlen
            have HS4 := Lib.hid hs4
            clear hE0 hlen hs4
            have p0 := hp_cell (j := 0) hbx rfl
            have p1 := hp_cell (j := 1) hbx rfl
            have p2 := hp_cell (j := 2) hbx rfl
            have hwr := HZ4.out.wr
            go_wp2_with fail
            go_still_tail 14, (by kernel_rfl)
            still_call (clear_s (wo.heap.size + 1) 1 sz cl h2 HCL _ (by exact p1))
            repeat still_step
            refine wpStill_nil ?_
            change wpList _ _ _ _ _ (World.drew _)
            go_wp2_with fail
            rw [show ((cl : Int) + 1) = ((cl + 1 : Nat) : Int) by omega]
            refine (putL wo.heap.size (.slice none 0 0) 0 (pack false s4.bits).1 (pack false s4.bits).2 ob4 (pack_bytes _ (by omega)) ((cl + 1 : Nat) : Int) (by unfold In64; omega) s4.wd (by omega) _ (hwr.chg ((Chg.refl [] _).drew) (by simp) (by simp))).mono ?_
            rintro e w5 ⟨rfl, hC5, ob5, hW5, hN5⟩
            rw [putsL_pack] at hW5
            obtain ⟨S5, hZ5, hM5, hC5'⟩ := (HZ4.out.below (Below.refl _ _).drew).put hC5 hW5 hN5
            have p0' := hp_cell (j := 0) hZ5.box rfl
            have hwr5 := hZ5.wr
            have hB5 : Below wo.heap.size wo w5 := (HB4.out.drew).trans (hC5'.below HB4.out.size HSS4.out)
            have HB5 := Lib.hid hB5
            have HW5 := Lib.hid hwr5
            have hlb : (pack false (s4.bits ++ numB false ((cl + 1 : Nat) : Int) s4.wd)).1.length ≤ 500000 := pack_bytes _ (by rw [List.length_append, numB_len]; omega)
            clear hZ5 hM5 hC5 hC5' hB5 hwr5 hwr hW5 hN5 p0 p1 p2
            go_wp2_with fail
            refine (outL wo.heap.size (.slice none 0 0) 0 _ _ ob5 (by omega) _ HW5.out).mono ?_
            rintro e w6 ⟨A6, cap6, rfl, hN6, hB6⟩
            have HB6 := Lib.hid (HB5.out.trans (hB6.mono HB5.out.size))
            have HN6 : Hid (NewB wo.heap.size w6 (lzwE sz l).length A6 cap6 (gz (lzwE sz l))) := by
              rw [HLEN.out]
              exact Lib.hid ⟨hN6.le, hN6.max, hN6.nil, hN6.byt, (fun a ha => Nat.le_trans HB5.out.size (hN6.far a ha)), hN6.lt, hN6.form⟩
            clear hN6 hB6
            rw [← HLEN.out]
            go_wp2
            go_ret2
            exact ⟨A6, cap6, rfl, HN6.out, HB6.out⟩
end Go.Proofs.Ytioghgnngdcicaa
