/- bmpwrite.opaque; what a file is. bmpwrite.Encode. -/
import Derived.Test.YthgafdbdmemkhaaDoorM5
import Derived.Deep.DeepCutAuto
namespace Go.Proofs.YthgafdbdmemkhaaDoor
set_option maxRecDepth 100000
set_option linter.unusedVariables false
open Go.ChangeShapes Go.WideShapes Go.ChangeAt Go.RowKit

def opqB (N : Nat) (c : Nat → Nat) : Bool := (List.range N).all fun i => c (4 * i + 3) == 65535
theorem opq_iff {N : Nat} {c : Nat → Nat} : opqB N c = true ↔ ∀ i, i < N → c (4 * i + 3) = 65535 := by simp [opqB]
theorem opq_f {N k : Nat} {c : Nat → Nat} (hk : k < N) (h : ¬c (4 * k + 3) = 65535) : opqB N c = false := by
  rw [← Bool.not_eq_true, opq_iff]
  intro h2
  exact h (h2 k hk)
set_option maxRecDepth 100000 in
set_option maxHeartbeats 1000000 in
theorem opaque_prog (a b : Int) (A : Option Addr) (N cap : Nat) (c : Nat → Nat) (hn : 4 * N ≤ cap) (hmax : cap ≤ maxLen) (hN : N ≤ 16384) (w : World) (hP : Pix w A (4 * N) c) :
    Calls Tryd.prog 15 #[.agg #[.int .i64 a, .int .i64 b, .slice A (4 * N) cap]] w fun e w' => e = .returned (.bool (opqB N c)) ∧ Below w.heap.size w w' := by
  unfold maxLen at hmax
  have hbx := hp_new0 w (.cells #[.int .i64 a, .int .i64 b, .slice A (4 * N) cap] 24)
  have k2 := hp_cell (j := 2) hbx rfl
  have HB := Lib.hid ((Below.refl _ w).alloc (Nat.le_refl _) (.cells #[.int .i64 a, .int .i64 b, .slice A (4 * N) cap] 24))
  obtain ⟨n, hne⟩ : ∃ n, n = 4 * N := ⟨_, rfl⟩
  rw [← hne] at hP k2 HB hn ⊢
  have HNE := Lib.hid hne
  clear hbx hne
  go_enter Tryd.func15, Tryd.ntmps15
  go_wp2_with fail
  go_loopw [3] (fun x wr => ∃ k : Nat, k ≤ N ∧ x = .int .i64 ((4 * k + 3 : Nat) : Int) ∧ (∀ i, i < k → c (4 * i + 3) = 65535) ∧ wr = w.alloc (.cells #[.int .i64 a, .int .i64 b, .slice A n cap] 24)) (fun x _ => n + 3 - (intOf x).toNat)
  case atStart => exact ⟨0, by omega, rfl, fun i hi => absurd hi (by omega), rfl⟩
  case round =>
    obtain ⟨k, hk, rfl, hag, rfl⟩ := hrel
    have HAG := Lib.hid hag
    clear hag
    obtain ⟨q, hq⟩ : ∃ q, q = 4 * k + 3 := ⟨_, rfl⟩
    have hnn := HNE.out
    by_cases hlt : k < N
    · obtain ⟨bk, off, rfl, hbl, hcl⟩ := hP (by omega)
      have c0 : (w.alloc (.cells #[.int .i64 a, .int .i64 b, .slice (some ⟨bk, off, none⟩) n cap] 24)).cell? ⟨bk, off + q, none⟩ = some (.int .u16 (c q : Nat)) := (HB.out.cell (p := ⟨bk, off + q, none⟩) hbl).trans (hcl q (by omega))
      rw [← hq]
      by_cases he : c q = 65535
      · have HS := Lib.hid (all_snoc (p := fun i => c (4 * i + 3) = 65535) HAG.out (by rw [← hq]; exact he))
        rw [he] at c0
        have hq4 : (q : Int) + 4 = ((4 * (k + 1) + 3 : Nat) : Int) := by omega
        have hqn : q < n := by omega
        have hw64 : wrap64 ((q : Int) + 4) = (q : Int) + 4 := IntWalk.wrap64_in _ (by omega)
        have hmq : n + 3 - (4 * (k + 1) + 3) < n + 3 - q := by omega
        have HQ := Lib.hid hq
        clear hcl hP hnn hq he hq4
        go_wp2_with fail
        go_roundw
        case rel => exact ⟨k + 1, by omega, congrArg (Value.int .i64) (by have := HQ.out; omega), HS.out, trivial⟩
        case measure => simp [intOf]; omega
      · have HF : Hid (opqB N c = false) := Lib.hid (opq_f hlt (by rw [← hq]; exact he))
        have hne9 : ((c q : Int) == 65535) = false := by rw [beq_eq_false_iff_ne]; omega
        have hqn : q < n := by omega
        have hqw := HB.out
        clear hcl hP hnn hq
        go_wp2_with fail
        go_ret
        exact ⟨ret_b HF.out.symm, hqw⟩
    · obtain rfl : k = N := by omega
      have HF : Hid (opqB k c = true) := Lib.hid (opq_iff.2 HAG.out)
      rw [← hq]
      have hqn : ¬q < n := by omega
      have hqw := HB.out
      clear hnn hq
      go_wp2_with fail
      go_ret
      exact ⟨ret_b HF.out.symm, hqw⟩
def partN (j : Nat) : Nat := if j = 3 then 3 else 2 - j
def partsH (gt : Bool) : Nat := if gt then 4 else 3
def pxL (P : Nat) (c : Nat → Nat) (q : Nat) : List Nat := (List.range P).map fun j => c (4 * q + partN j) / 257
def rowL (P a wide : Nat) (c : Nat → Nat) (y : Nat) : List Nat := (List.range a).flatMap (fun x => pxL P c (y * a + x)) ++ List.replicate (wide - P * a) 0
def rowsL (P a wide : Nat) (c : Nat → Nat) (b k : Nat) : List Nat := (List.range k).flatMap fun t => rowL P a wide c (b - 1 - t)
def wideH (gt : Bool) (a : Nat) : Nat := (a * bitsH gt + 31) / 32 * 4
def fileL (gt : Bool) (c : Nat → Nat) (a b : Nat) : List Nat := headL gt (wideH gt a) a b ++ rowsL (partsH gt) a (wideH gt a) c b b
theorem pxL_len (P : Nat) (c : Nat → Nat) (q : Nat) : (pxL P c q).length = P := by simp [pxL]
theorem flat_const {α : Type} {f : Nat → List α} {m : Nat} (h : ∀ x, (f x).length = m) (k : Nat) : ((List.range k).flatMap f).length = k * m := by
  induction k with
  | zero => simp
  | succ k ih => rw [List.range_succ, List.flatMap_append, List.length_append, ih, List.flatMap_singleton, h, Nat.add_mul]; omega
theorem pxs_len (P a : Nat) (c : Nat → Nat) (f : Nat → Nat) : ((List.range a).flatMap (fun x => pxL P c (f x))).length = a * P := flat_const (fun x => pxL_len P c (f x)) a
theorem rowL_len (P a wide : Nat) (c : Nat → Nat) (y : Nat) (h : P * a ≤ wide) : (rowL P a wide c y).length = wide := by
  rw [rowL, List.length_append, pxs_len, List.length_replicate, Nat.mul_comm a P]
  omega
theorem rowsL_len (P a wide : Nat) (c : Nat → Nat) (b k : Nat) (h : P * a ≤ wide) : (rowsL P a wide c b k).length = k * wide := flat_const (fun t => rowL_len P a wide c _ h) k
theorem rowsL_succ (P a wide : Nat) (c : Nat → Nat) (b k : Nat) : rowsL P a wide c b (k + 1) = rowsL P a wide c b k ++ rowL P a wide c (b - 1 - k) := by simp [rowsL, List.range_succ, List.flatMap_append]
theorem pxs_succ (P : Nat) (c : Nat → Nat) (f : Nat → Nat) (a : Nat) : (List.range (a + 1)).flatMap (fun x => pxL P c (f x)) = (List.range a).flatMap (fun x => pxL P c (f x)) ++ pxL P c (f a) := by simp [List.range_succ, List.flatMap_append]
theorem headL_len (gt : Bool) (wide a b : Nat) : (headL gt wide a b).length = 14 + sizeH gt := by
  cases gt <;> simp [headL, head1_len, zerL_len, masksL_len, sizeH]
end Go.Proofs.YthgafdbdmemkhaaDoor

namespace Go.Proofs.YthgafdbdmemkhaaDoor
set_option maxRecDepth 100000
set_option linter.unusedVariables false
open Go.ChangeShapes Go.WideShapes Go.ChangeAt Go.RowKit

theorem head_file (gt : Bool) (g : Nat) (ob0 : Option Nat) (wide a b : Nat) (A : Option Addr) (n cap : Nat) (hwd : wide ≤ 2000) (ha : a ≤ 256) (hb : b ≤ 256) (w : World) (h : Fl g [] ob0 w) :
    Calls Tryd.prog 16 #[.pointer (some ⟨g, 0, none⟩), .agg #[.int .i64 a, .int .i64 b, .slice A n cap], .int .i64 (sizeH gt : Nat), .int .i64 (bitsH gt : Nat), .int .i64 wide] w fun e w' =>
      e = .returned (.tuple #[]) ∧ FS g ob0 w (headL gt wide a b) w' := by
  cases gt with
  | true => exact head_file_32 g ob0 wide a b A n cap hwd ha hb w h
  | false => exact head_file_24 g ob0 wide a b A n cap hwd ha hb w h
set_option maxRecDepth 100000 in
set_option maxHeartbeats 400000 in
theorem enc_arg (a b : Int) (A : Option Addr) (n cap : Nat) (c : Nat → Nat) (ha : In64 a) (hb : In64 b) (hn : n ≤ cap) (hmax : cap ≤ maxLen) (hm : mayB a b n = false) (w : World) (hP : Pix w A n c) :
    Calls Tryd.prog 5 #[.agg #[.int .i64 a, .int .i64 b, .slice A n cap]] w fun e w' => e = .returned (.tuple #[.slice none 0 0, .int .i64 1]) ∧ Below w.heap.size w w' := by
  have k0 := hp_new0 w (.cells #[.int .i64 a, .int .i64 b, .slice A n cap] 24)
  have c0 := hp_cell (j := 0) k0 rfl
  have c1 := hp_cell (j := 1) k0 rfl
  have c2 := hp_cell (j := 2) k0 rfl
  have HB := Lib.hid ((Below.refl _ w).alloc (Nat.le_refl _) (.cells #[.int .i64 a, .int .i64 b, .slice A n cap] 24))
  have HM := Lib.hid hm
  clear k0 hm
  go_enter Tryd.func5, Tryd.ntmps5
  go_wp2_with fail
  refine (may_prog a b A n cap ha hb hn hmax _).mono ?_
  rintro e w1 ⟨rfl, hB⟩
  rw [HM.out]
  have HB1 := Lib.hid (HB.out.trans (hB.mono (by simp)))
  clear hB
  go_wp2
  go_ret2
  exact ⟨rfl, HB1.out⟩
set_option maxRecDepth 100000 in
set_option maxHeartbeats 400000 in
theorem enc_depth (a b : Int) (A : Option Addr) (n cap : Nat) (c : Nat → Nat) (hc : ∀ i, c i < 65536) (ha : In64 a) (hb : In64 b) (hn : n ≤ cap) (hmax : cap ≤ maxLen) (hm : mayB a b n = true) (hf : fitsB a b n c 3 = false) (w : World) (hP : Pix w A n c) :
    Calls Tryd.prog 5 #[.agg #[.int .i64 a, .int .i64 b, .slice A n cap]] w fun e w' => e = .returned (.tuple #[.slice none 0 0, .int .i64 8]) ∧ Below w.heap.size w w' := by
  have k0 := hp_new0 w (.cells #[.int .i64 a, .int .i64 b, .slice A n cap] 24)
  have c0 := hp_cell (j := 0) k0 rfl
  have c1 := hp_cell (j := 1) k0 rfl
  have c2 := hp_cell (j := 2) k0 rfl
  have HB := Lib.hid ((Below.refl _ w).alloc (Nat.le_refl _) (.cells #[.int .i64 a, .int .i64 b, .slice A n cap] 24))
  have HM := Lib.hid hm
  have HF := Lib.hid hf
  have HC := Lib.hid hc
  have HK := Lib.hid k0
  clear k0 hm hf hc
  go_enter Tryd.func5, Tryd.ntmps5
  go_wp2_with fail
  refine (may_prog a b A n cap ha hb hn hmax _).mono ?_
  rintro e w1 ⟨rfl, hB⟩
  rw [HM.out]
  have HB1 := Lib.hid (HB.out.trans (hB.mono (by simp)))
  have hk1 := hp_below HK.out hB (by simp)
  have d0 := hp_cell (j := 0) hk1 rfl
  have d1 := hp_cell (j := 1) hk1 rfl
  have d2 := hp_cell (j := 2) hk1 rfl
  clear hB hk1 c0 c1 c2
  go_wp2_with fail
  refine (fits_prog a b A n cap c 3 HC.out ha hb (by unfold In64; omega) hn hmax _ (hP.below HB1.out)).mono ?_
  rintro e w2 ⟨rfl, hB⟩
  rw [HF.out]
  have HB2 := Lib.hid (HB1.out.trans (hB.mono HB1.out.size))
  clear hB
  go_wp2
  go_ret2
  exact ⟨rfl, HB2.out⟩
theorem eight_nat (x : Nat) (h : x % 257 = 0) : eightV (x : Int) = ((x / 257 : Nat) : Int) ∧ eightB (x : Int) = true := by
  have e : eightB (x : Int) = true := by simp [eightB]; omega
  refine ⟨?_, e⟩
  unfold eightV
  rw [if_pos e]
  omega
theorem wide_bd (gt : Bool) (a : Nat) (h : a ≤ 256) : wideH gt a ≤ 2000 ∧ partsH gt * a ≤ wideH gt a ∧ bitsH gt ≤ 32 ∧ sizeH gt ≤ 108 ∧ partsH gt ≤ 4 := by
  cases gt <;> simp [wideH, bitsH, partsH, sizeH] <;> omega
theorem FS.below {g : Nat} {ob : Option Nat} {w wB W : World} {o : List Nat} {B : Nat} (h : FS g ob wB o W) (hB : Below B w wB) (h0 : B ≤ wB.heap.size) (hg : B ≤ g) (hob : ∀ k, ob = some k → B ≤ k) : Below B w W :=
  hB.trans (h.chg.below h0 (fun k hk => (near_mem.1 hk).elim (fun e => by rw [e]; exact hg) (hob k)))
set_option maxRecDepth 100000 in
set_option maxHeartbeats 4000000 in
theorem enc_ok (a b N : Nat) (A : Option Addr) (cap : Nat) (c : Nat → Nat) (hc : ∀ i, c i < 65536) (hn : 4 * N ≤ cap) (hmax : cap ≤ maxLen) (hm : mayB a b (4 * N) = true) (hf : fitsB a b (4 * N) c 3 = true) (hab : a * b = N) (ha : 1 ≤ a ∧ a ≤ 256) (hb : 1 ≤ b ∧ b ≤ 256) (hN : N ≤ 16384) (h257 : ∀ i, i < 4 * N → c i % 257 = 0) (w : World) (hP : Pix w A (4 * N) c) :
    Calls Tryd.prog 5 #[.agg #[.int .i64 a, .int .i64 b, .slice A (4 * N) cap]] w fun e w' => ∃ gb cap', e = .returned (.tuple #[.slice (some ⟨gb, 0, none⟩) (fileL (!opqB N c) c a b).length cap', .int .i64 0]) ∧
      w'.ownsRow w.heap.size 5 1 (.slice (some ⟨gb, 0, none⟩) (fileL (!opqB N c) c a b).length cap') (fileL (!opqB N c) c a b).length (cellsB (fileL (!opqB N c) c a b)) ∧ Below w.heap.size w w' := by
  obtain ⟨i0, hi0, hz0, hz1, hz2⟩ := info_parts info8
  have ha64 : In64 (a : Int) := by unfold In64; omega
  have hb64 : In64 (b : Int) := by unfold In64; omega
  have k0 := hp_new0 w (.cells #[.int .i64 a, .int .i64 b, .slice A (4 * N) cap] 24)
  obtain ⟨n, hne⟩ : ∃ n, n = 4 * N := ⟨_, rfl⟩
  have hop := fun w hP => opaque_prog a b A N cap c hn hmax hN w hP
  rw [← hne] at hP hn hm hf k0 hop ⊢
  have c0 := hp_cell (j := 0) k0 rfl
  have c1 := hp_cell (j := 1) k0 rfl
  have c2 := hp_cell (j := 2) k0 rfl
  have HB := Lib.hid ((Below.refl _ w).alloc (Nat.le_refl _) (.cells #[.int .i64 a, .int .i64 b, .slice A n cap] 24))
  have HM := Lib.hid hm
  have HF := Lib.hid hf
  have HC := Lib.hid hc
  have HK := Lib.hid k0
  have HAB := Lib.hid hab
  have HNE := Lib.hid hne
  have HOP := Lib.hid hop
  have H257 := Lib.hid h257
  clear k0 hm hf hc hab hne hop h257
  go_enter Tryd.func5, Tryd.ntmps5
  go_wp2_with fail
  refine (may_prog a b A n cap ha64 hb64 hn hmax _).mono ?_
  rintro e w1 ⟨rfl, hB⟩
  rw [HM.out]
  have HB1 := Lib.hid (HB.out.trans (hB.mono (by simp)))
  have hk1 := hp_below HK.out hB (by simp)
  have d0 := hp_cell (j := 0) hk1 rfl
  have d1 := hp_cell (j := 1) hk1 rfl
  have d2 := hp_cell (j := 2) hk1 rfl
  have HK1 := Lib.hid hk1
  clear hB hk1 c0 c1 c2
  go_wp2_with fail
  refine (fits_prog a b A n cap c 3 HC.out ha64 hb64 (by unfold In64; omega) hn hmax _ (hP.below HB1.out)).mono ?_
  rintro e w2 ⟨rfl, hB⟩
  rw [HF.out]
  have HB2 := Lib.hid (HB1.out.trans (hB.mono HB1.out.size))
  have HK2 := Lib.hid (hp_below HK1.out hB (lt_heap HK1.out))
  clear hB d0 d1 d2
  have hal : Below w2.heap.size w2 (w2.alloc (.cells #[.int .i64 2, .int .i64 1, .int .i64 0, .int .i64 3] 3)) := (Below.refl _ w2).alloc (Nat.le_refl _) _
  have hpb := hp_new0 w2 (.cells #[.int .i64 2, .int .i64 1, .int .i64 0, .int .i64 3] 3)
  have HB3 := Lib.hid (HB2.out.trans (hal.mono HB2.out.size))
  have HK3 := Lib.hid (hp_below HK2.out hal (lt_heap HK2.out))
  have hs3 : (w2.alloc (.cells #[.int .i64 2, .int .i64 1, .int .i64 0, .int .i64 3] 3)).heap.size = w2.heap.size + 1 := World.size_alloc _ _
  have hbp : w.heap.size < w2.heap.size := lt_heap HK2.out
  have HPB := Lib.hid hpb
  clear hpb hal
  have HS3 := Lib.hid hs3
  clear hs3
  have d0 := hp_cell (j := 0) HK3.out rfl
  have d1 := hp_cell (j := 1) HK3.out rfl
  have d2 := hp_cell (j := 2) HK3.out rfl
  go_wp2_with fail
  obtain ⟨pb, hpbe⟩ : ∃ pb, pb = w2.heap.size := ⟨_, rfl⟩
  generalize w2.alloc (.cells #[.int .i64 2, .int .i64 1, .int .i64 0, .int .i64 3] 3) = w3 at *
  rw [← hpbe] at HPB HS3 hbp ⊢
  clear hpbe
  have hs3 := HS3.out
  refine (HOP.out w3 (hP.below HB3.out)).mono ?_
  rintro e w4 ⟨rfl, hB⟩
  have HB4 := Lib.hid (HB3.out.trans (hB.mono HB3.out.size))
  have HK4 := Lib.hid (hp_below HK3.out hB (lt_heap HK3.out))
  have HPB4 := Lib.hid (hp_below HPB.out hB (lt_heap HPB.out))
  obtain ⟨gt, hgt⟩ : ∃ gt, gt = !opqB N c := ⟨_, rfl⟩
  have hgt2 : opqB N c = !gt := by rw [hgt, Bool.not_not]
  have HGT := Lib.hid hgt
  rw [hgt2]
  clear hgt hgt2 hB d0 d1 d2 HOP
  go_upto_if 26 with fail
  go_cut [4, 5, 6] (fun s4 s5 s6 wx => s4 = .int .i64 (sizeH gt : Nat) ∧ s5 = .int .i64 (bitsH gt : Nat) ∧ s6 = .slice (some ⟨pb, 0, none⟩) (partsH gt) 4 ∧ (wx = w4 ∨ wx = w4.drew))
  case first =>
    cases gt with
    | true =>
      go_wp2_with fail
      go_meet
      exact ⟨rfl, rfl, rfl, .inl rfl⟩
    | false =>
      go_wp2_with fail
      go_region
      all_goals
        go_wp2_with fail
        go_meet
        exact ⟨rfl, rfl, rfl, .inr rfl⟩
  case rest =>
    obtain ⟨rfl, rfl, rfl, hwc⟩ := hcut
    have hBc : Below w.heap.size w wc := hwc.elim (fun e => e ▸ HB4.out) (fun e => e ▸ HB4.out.drew)
    have hKc : wc.heap[w.heap.size]? = some (.cells #[.int .i64 a, .int .i64 b, .slice A n cap] 24 (0, 0)) := hwc.elim (fun e => e ▸ HK4.out) (fun e => e ▸ hp_drew HK4.out)
    have hPc : wc.heap[pb]? = some (.cells #[.int .i64 2, .int .i64 1, .int .i64 0, .int .i64 3] 3 (0, 0)) := hwc.elim (fun e => e ▸ HPB4.out) (fun e => e ▸ hp_drew HPB4.out)
    clear hwc HB4 HK4 HPB4 HB3 HK3 HPB HB2 HK2 HB1 HK1 HB HK
    obtain ⟨hw1, hw2, hw3, hw4, hw5⟩ := wide_bd gt a ha.2
    obtain ⟨W, hW⟩ : ∃ W, W = wideH gt a := ⟨_, rfl⟩
    rw [← hW] at hw1 hw2
    obtain ⟨M1, hM1⟩ : ∃ M1, M1 = a * bitsH gt := ⟨_, rfl⟩
    have hM1b : M1 ≤ 256 * 32 := by rw [hM1]; exact Nat.mul_le_mul ha.2 hw3
    have hMI : (a : Int) * (bitsH gt : Int) = (M1 : Int) := by rw [hM1]; simp
    obtain ⟨W4, hW4⟩ : ∃ W4, W4 = (M1 + 31) / 32 := ⟨_, rfl⟩
    have hq1 : ((M1 : Int) + 31) / 32 = (W4 : Int) := by omega
    have hWe : W = W4 * 4 := by rw [hW, wideH, ← hM1, hW4]
    have hq2 : (W4 : Int) * 4 = (W : Int) := by omega
    have hW4b : W4 ≤ 1000 := by omega
    have HWe := Lib.hid hW
    clear hM1 hW4 hWe hW hw3
    have d0 := hp_cell (j := 0) hKc rfl
    have d1 := hp_cell (j := 1) hKc rfl
    have d2 := hp_cell (j := 2) hKc rfl
    have hgw : pb < wc.heap.size := lt_heap hPc
    have hfn := hp_new0 wc (.cells #[.slice none 0 0] 43)
    have hBf : Below wc.heap.size wc (wc.alloc (.cells #[.slice none 0 0] 43)) := (Below.refl _ wc).alloc (Nat.le_refl _) _
    have hKf := hp_below hKc hBf (lt_heap hKc)
    have hPf := hp_below hPc hBf (lt_heap hPc)
    have e0 := hp_cell (j := 0) hKf rfl
    have e1 := hp_cell (j := 1) hKf rfl
    have e2 := hp_cell (j := 2) hKf rfl
    have hFl : Fl wc.heap.size [] none (wc.alloc (.cells #[.slice none 0 0] 43)) := ⟨⟨_, hfn, World.ownsRow_nil _ _ _ _, rfl⟩, fun x hx => by cases hx⟩
    have HBf := Lib.hid (hBc.trans (hBf.mono hBc.size))
    have HKf := Lib.hid hKf
    have HPf := Lib.hid hPf
    have HFl := Lib.hid hFl
    have hwk : w.heap.size < wc.heap.size := lt_heap hKc
    clear hfn hBf hKf hPf hFl hKc hPc hBc
    go_wp2_with fail
    refine (head_file gt wc.heap.size none W a b A n cap hw1 ha.2 hb.2 _ HFl.out).mono ?_
    rintro e w5 ⟨rfl, hS⟩
    obtain ⟨g, hge⟩ : ∃ g, g = wc.heap.size := ⟨_, rfl⟩
    generalize wc.alloc (.cells #[.slice none 0 0] 43) = wf at *
    rw [← hge] at hS hgw hwk ⊢
    have hrg : w.heap.size ≠ g := by omega
    have hpg : pb ≠ g := by omega
    have HS := Lib.hid hS
    have hK5 := hS.box HKf.out hrg (by simp)
    clear hS hge HFl e0 e1 e2 d0 d1 d2
    have e1 := hp_cell (j := 1) hK5 rfl
    have HK5 := Lib.hid hK5
    clear hK5
    go_wp2_with fail
    clear e1
    have hHl := headL_len gt W a b
    obtain ⟨HL, hHL⟩ : ∃ HL, HL = headL gt W a b := ⟨_, rfl⟩
    rw [← hHL] at HS hHl
    have HHL := Lib.hid hHL
    clear hHL
    have hPa : partsH gt * a ≤ W := hw2
    obtain ⟨P, hP9⟩ : ∃ P, P = partsH gt := ⟨_, rfl⟩
    rw [← hP9] at hPa hw5 ⊢
    have HPe := Lib.hid hP9
    have hP4 : P = 3 ∨ P = 4 := by cases gt <;> simp [partsH] at hP9 <;> omega
    clear hP9 hw2
    go_loopw [9] (fun y wr => ∃ k : Nat, k ≤ b ∧ y = .int .i64 ((b : Int) - 1 - (k : Int)) ∧ FS g none wf (HL ++ rowsL P a W c b k) wr) (fun y _ => (intOf y + 1).toNat)
    case atStart => exact ⟨0, by omega, by simp, by simpa [rowsL] using HS.out⟩
    case round =>
      obtain ⟨k, hk, rfl, hS⟩ := hrel
      have hLl : (HL ++ rowsL P a W c b k).length = 14 + sizeH gt + k * W := by rw [List.length_append, hHl, rowsL_len P a W c b k hPa]
      have hkW : k * W ≤ 256 * 2000 := Nat.mul_le_mul (by omega) hw1
      obtain ⟨L, hLe⟩ : ∃ L, L = HL ++ rowsL P a W c b k := ⟨_, rfl⟩
      rw [← hLe] at hS hLl
      have hL1 : L.length ≤ 600000 := by omega
      have HLe := Lib.hid hLe
      have HSk := Lib.hid hS
      clear hLe hLl hkW HS
      by_cases hlt : k < b
      · obtain ⟨y, hy⟩ : ∃ y, y = b - 1 - k := ⟨_, rfl⟩
        have hyI : (b : Int) - 1 - (k : Int) = (y : Int) := by omega
        have hyb : y < b := by omega
        have HY := Lib.hid hy
        rw [hyI]
        have HYI := Lib.hid hyI
        clear hyI
        have hKr := hS.box HKf.out hrg (by simp)
        have e0 := hp_cell (j := 0) hKr rfl
        obtain ⟨⟨ob, hfl, _⟩, _⟩ := hS
        obtain ⟨⟨vo, hbo, hown, _⟩, _⟩ := hfl
        obtain ⟨_, Au, cu, rfl, hq5, hq6, _⟩ := Sl.of_own hown
        have e8 := hp_cell (j := 0) hbo rfl
        clear hy hKr hbo hown
        go_wp2_with fail
        obtain ⟨hvx, hva⟩ : (∃ v : Nat, v = wf.heap.size) ∧ w.heap.size ≤ wf.heap.size := ⟨⟨_, rfl⟩, HBf.out.size⟩
        go_loopw [58] (fun x wx => ∃ q : Nat, q ≤ a ∧ x = .int .i64 (q : Nat) ∧ FS g none wf (L ++ (List.range q).flatMap (fun x => pxL P c (y * a + x))) wx) (fun x _ => a - (intOf x).toNat)
        case atStart => exact ⟨0, by omega, rfl, by simpa using HSk.out⟩
        case round =>
          obtain ⟨q, hqa, rfl, hS⟩ := hrel
          obtain ⟨L2, hL2⟩ : ∃ L2, L2 = L ++ (List.range q).flatMap (fun x => pxL P c (y * a + x)) := ⟨_, rfl⟩
          have hL2l : L2.length = L.length + q * P := by rw [hL2, List.length_append, pxs_len P q c (fun x => y * a + x)]
          have hqP : q * P ≤ 256 * 4 := Nat.mul_le_mul (by omega) hw5
          have hL3 : L2.length ≤ 700000 := by omega
          rw [← hL2] at hS
          have HL2 := Lib.hid hL2
          have HS2 := Lib.hid hS
          clear hL2 hL2l hqP
          by_cases hlt2 : q < a
          · have hin : inB a b n q y = true := inB_xy HM.out hlt2 hyb
            obtain ⟨z, hz⟩ : ∃ z, z = y * a + q := ⟨_, rfl⟩
            obtain ⟨f, hf⟩ : ∃ f : Nat → Nat, f = fun j => c (4 * z + j) := ⟨_, rfl⟩
            have hgv : getV a b n c q y = .agg #[.int .u16 (f 0 : Nat), .int .u16 (f 1 : Nat), .int .u16 (f 2 : Nat), .int .u16 (f 3 : Nat)] := by
              unfold getV
              rw [if_pos hin, show ((y : Int) * (a : Int) + (q : Int)).toNat = z by rw [hz]; omega, hf]
              rfl
            have hzN : z < N := by
              rw [← HAB.out, hz]
              have e : (y + 1) * a ≤ b * a := Nat.mul_le_mul_right a (by omega)
              rw [Nat.add_mul, Nat.one_mul] at e
              rw [Nat.mul_comm a b]
              omega
            have hBr := hS.below HBf.out hva (by omega) (fun k h => by cases h)
            have hPr := hP.below hBr
            have hKr := hS.box HKf.out hrg (by simp)
            have e0 := hp_cell (j := 0) hKr rfl
            have e1 := hp_cell (j := 1) hKr rfl
            have e2 := hp_cell (j := 2) hKr rfl
            have HIN := Lib.hid hin
            have HGV := Lib.hid hgv
            have HZ := Lib.hid hz
            have HFz := Lib.hid hf
            clear hin hgv hz hKr hBr hf
            go_wp2_with fail
            refine (get_prog a b A n cap c q y ha64 hb64 hn hmax _ hPr).mono ?_
            rintro e u1 ⟨hB, rfl⟩
            rw [HIN.out, HGV.out]
            obtain ⟨⟨ob2, hfl2, hnx2⟩, hch2⟩ := HS2.out
            have hcV : Chg [] wr (u1.alloc (.cells #[.int .u16 (f 0 : Nat), .int .u16 (f 1 : Nat), .int .u16 (f 2 : Nat), .int .u16 (f 3 : Nat)] 45)) := (Chg.of_below hB).alloc _
            have hbV := hp_new0 u1 (.cells #[.int .u16 (f 0 : Nat), .int .u16 (f 1 : Nat), .int .u16 (f 2 : Nat), .int .u16 (f 3 : Nat)] 45)
            have hpV := hp_chg (hp_chg HPf.out hch2 (fun hm => (near_mem.1 hm).elim hpg (by simp))) hcV (by simp)
            have hob2 : ∀ k, ob2 = some k → g < k ∧ k < wr.heap.size := fun k hk => hfl2.ob_lt hk
            have hus := hB.size
            have hgu : g < u1.heap.size := Nat.lt_of_lt_of_le hfl2.g_lt hus
            have HflV := Lib.hid (hfl2.chg hcV (by simp) (fun _ _ => by simp))
            have HchV := Lib.hid (hch2.trans (hcV.mono (by simp)))
            have Hnx2 := Lib.hid hnx2
            have HbV := Lib.hid hbV
            have HpV := Lib.hid hpV
            clear hfl2 hnx2 hch2 hcV hbV hpV e0 e1 e2 hPr hB
            go_wp2_with fail
            generalize u1.alloc (.cells #[.int .u16 (f 0 : Nat), .int .u16 (f 1 : Nat), .int .u16 (f 2 : Nat), .int .u16 (f 3 : Nat)] 45) = V at *
            obtain ⟨vb, hvb⟩ : ∃ vb, vb = u1.heap.size := ⟨_, rfl⟩
            rw [← hvb] at HbV hgu hus ⊢
            have hvg : vb ≠ g := by omega
            have hvo : ob2 ≠ some vb := fun h => by have := (hob2 vb h).2; omega
            have hpo : ob2 ≠ some pb := fun h => by have := (hob2 pb h).1; omega
            clear hvb
            go_loopw [70] (fun x wi => ∃ j : Nat, j ≤ P ∧ x = .int .i64 (j : Nat) ∧ FS g ob2 V (L2 ++ (List.range j).map (fun j => c (4 * z + partN j) / 257)) wi) (fun x _ => P - (intOf x).toNat)
            case atStart => exact ⟨0, by omega, rfl, by simpa using FS.start HflV.out⟩
            case round =>
              obtain ⟨j, hjP, rfl, hS3⟩ := hrel
              obtain ⟨L3, hL3e⟩ : ∃ L3, L3 = L2 ++ (List.range j).map (fun j => c (4 * z + partN j) / 257) := ⟨_, rfl⟩
              have hL3l : L3.length = L2.length + j := by rw [hL3e, List.length_append, List.length_map, List.length_range]
              have hL3b : L3.length ≤ 700004 := by omega
              rw [← hL3e] at hS3
              have HL3 := Lib.hid hL3e
              have HS3b := Lib.hid hS3
              clear hL3e hL3l
              by_cases hlt3 : j < P
              · have hbw := hS3.box HbV.out hvg hvo
                have hpw := hS3.box HpV.out hpg hpo
                obtain ⟨t, ht⟩ : ∃ t, t = partN j := ⟨_, rfl⟩
                have ht4 : t < 4 := by rw [ht, partN]; split <;> omega
                have hj4 : j < 4 := by omega
                have hcp : (#[Value.int .i64 2, .int .i64 1, .int .i64 0, .int .i64 3] : Array Value)[j]? = some (.int .i64 (t : Nat)) := by
                  rw [ht]
                  have h : j = 0 ∨ j = 1 ∨ j = 2 ∨ j = 3 := by omega
                  rcases h with rfl | rfl | rfl | rfl <;> rfl
                have hcf : (#[Value.int .u16 (f 0 : Nat), .int .u16 (f 1 : Nat), .int .u16 (f 2 : Nat), .int .u16 (f 3 : Nat)] : Array Value)[t]? = some (.int .u16 (f t : Nat)) := by
                  have h : t = 0 ∨ t = 1 ∨ t = 2 ∨ t = 3 := by omega
                  rcases h with rfl | rfl | rfl | rfl <;> rfl
                have cp := hp_cell hpw hcp
                have cf := hp_cell hbw hcf
                have hfz : f t = c (4 * z + t) := by rw [HFz.out]
                have hf1 : f t < 65536 := by rw [hfz]; exact HC.out _
                obtain ⟨hev, heb⟩ := eight_nat (f t) (by rw [hfz]; exact H257.out _ (by have := HNE.out; omega))
                obtain ⟨v, hv⟩ : ∃ v, v = f t / 257 := ⟨_, rfl⟩
                have hv8 : v < 256 := by omega
                rw [← hv] at hev
                have HLn := Lib.hid (show L3 ++ [v] = L2 ++ (List.range (j + 1)).map (fun j => c (4 * z + partN j) / 257) by rw [HL3.out, List.range_succ, List.map_append, List.append_assoc, hv, hfz, ht]; rfl)
                obtain ⟨fv, hfv⟩ : ∃ fv, fv = f t := ⟨_, rfl⟩
                rw [← hfv] at hf1 hev heb cf
                obtain ⟨⟨ob3, hfl3, hnx3⟩, hch3⟩ := hS3
                have hl8 := hfl3.lt
                obtain ⟨⟨vo, hb, hown, hob3⟩, _⟩ := hfl3
                have c8 := hp_cell (j := 0) hb rfl
                have HEV := Lib.hid hev
                have HEB := Lib.hid heb
                have HB3 := Lib.hid hb
                have HOB3 := Lib.hid hob3
                have HNX3 := Lib.hid hnx3
                have HCH3 := Lib.hid hch3
                clear hev heb hb hob3 hnx3 hch3 hbw hpw hfz hv hfv ht hcp hcf
                go_wp2_with fail
                refine (eight13 _ (by omega) (by omega) _).mono ?_
                rintro e _ ⟨rfl, rfl⟩
                rw [HEV.out, HEB.out]
                go_wp2_with (at_builtin; refine wpList_append_own_at _ rfl _ _ 26 rfl (g + 1) 5 i0 _ 1 1 Tryd.underlying26 hi0 hz0 hz1 hz2 rfl (by decide) _ _ _ rfl (hown.alloc _) ⟨wr.heap.size, 0, none⟩ 1 1 [.int .u8 (v : Nat)] rfl rfl ?c1 ?c2 ?c3 ?c4 ?c5 ?_)
                case c1 => intro j u hj; cases j with | zero => simp at hj; subst hj; exact hp_cell (j := 0) (hp_new0 wr _) (by simp) | succ j => simp at hj
                case c2 => intro u hu; simp at hu; subst hu; rfl
                case c3 => unfold maxLen; omega
                case c4 => omega
                case c5 => have := lt_heap HB3.out; simp; omega
                have hne : vo.ownBlock ≠ some g := fun e => by have := (hown.lt g e).1; omega
                intro u2 w4 hown' hgrow _ hat
                rw [HOB3.out] at hat hgrow hne
                obtain ⟨_, Au, cu, rfl, hq1, hq2, _⟩ := Sl.of_own hown'
                obtain ⟨u2, hu2⟩ : ∃ u2, u2 = Value.slice Au (L3.length + 1) cu := ⟨_, rfl⟩
                rw [← hu2] at hat hown'
                have hb2 := hp_alloc (.cells #[.int .u8 (v : Nat)] 5) HB3.out
                have hb4 := (hgrow.block g (lt_heap hb2) (fun e => hne e.symm)).trans hb2
                have hC4 : Chg (Near g ob3) wr w4 := ((Chg.refl _ wr).alloc _).trans (Chg.grown hgrow (fun r e => by subst e; simp [Near]))
                have hne2 : u2.ownBlock ≠ some g := by
                  rcases hat with h | h
                  · rw [h]; exact hne
                  · have := lt_heap HB3.out; rw [h]; simp; omega
                have hs1 := heap_set (i := 0) (x := u2) hb4
                have hk1 := hown'.kept (grown_set w4 g 0 u2) (.inr hne2)
                have hN : Next ob3 u2.ownBlock wr := by
                  rcases hat with h | h
                  · exact .inl h
                  · exact .inr ⟨_, h, by simp⟩
                have hfin : FS g ob2 V (L3 ++ [v]) (w4.setCell ⟨g, 0, none⟩ u2) := by
                  refine FS.step HNX3.out HCH3.out (hC4.trans (near_set (ob := ob3) w4 0 u2)) ⟨⟨_, hs1, ?_, rfl⟩, app_lt8 hl8 (fun x hx => by simp at hx; omega)⟩ hN
                  rw [List.length_append, List.length_singleton, cellsB_snoc]
                  exact hk1
                have HFIN := Lib.hid hfin
                have d0 := hp_cell (j := 0) hb4 rfl
                have df := hp_froz hb4 0
                clear hs1 hk1 hN hat hgrow hown' hb2 hb4 hC4 hfin c8 cp cf hown
                subst hu2
                go_wp2_with fail
                go_roundw
                case rel => exact ⟨j + 1, hlt3, by go_num, HLn.out ▸ HFIN.out⟩
                case measure => simp [intOf]; omega
              · have HJP := Lib.hid (show P = j by omega)
                go_wp2_with fail
                go_roundw
                case rel =>
                  refine ⟨q + 1, hlt2, by go_num, ?_⟩
                  rw [pxs_succ P c (fun x => y * a + x), ← List.append_assoc, ← HL2.out]
                  show FS g none wf (L2 ++ pxL P c (y * a + q)) _
                  have e9 : pxL P c (y * a + q) = (List.range j).map (fun j => c (4 * z + partN j) / 257) := by rw [← HZ.out, pxL, HJP.out]
                  rw [e9, ← HL3.out]
                  exact FS.trans HchV.out Hnx2.out HS3b.out
                case measure => simp [intOf]; omega
          · have HAQ := Lib.hid (show a = q by omega)
            obtain ⟨⟨ob2, hfl2, hnx2⟩, hch2⟩ := HS2.out
            have hl8 := hfl2.lt
            have hgl := hfl2.g_lt
            have hpW : P * a ≤ W := hPa
            obtain ⟨M, hM⟩ : ∃ M, M = W - P * a := ⟨_, rfl⟩
            have hL2l : (L2.length : Int) = L.length + W - M := by
              rw [HL2.out, List.length_append, pxs_len P q c (fun x => y * a + x), ← HAQ.out, hM, Nat.mul_comm a P]
              omega
            have hMb : M ≤ 2000 := by omega
            have HM' := Lib.hid hM
            obtain ⟨⟨vo, hb, hown, hob⟩, _⟩ := hfl2
            have hL2p : 0 < L2.length := by rw [HL2.out, List.length_append, HLe.out, List.length_append, hHl]; omega
            obtain ⟨m2, hm2⟩ : ∃ m2, m2 = L2.length := ⟨_, rfl⟩
            rw [← hm2] at hown hL2l hL2p
            have hm2b : m2 ≤ 700000 := by omega
            obtain ⟨gb, cap3, rfl⟩ : ∃ gb cap3, vo = .slice (some ⟨gb, 0, none⟩) m2 cap3 := by
              rcases hown.2 with ⟨_, h0⟩ | ⟨g9, cap9, _, h9, _⟩
              · omega
              · exact ⟨g9, cap9, h9⟩
            obtain rfl : ob2 = some gb := hob.symm
            clear hob
            have hgb := (hown.lt gb rfl).1
            have hne3 : some g ≠ some gb := fun e => by cases e; omega
            obtain ⟨g5, cap5, w5, hr5, hown5, hgrow5, hat5⟩ := run_app0 (P := Tryd.prog) (w := wr.drew) (g + 1) 26 3 26 5 i0 (.int .u8 0) 1 .i64 Tryd.underlying26 Tryd.underlying3 hi0 hz0 hz1 hz2 rfl rfl gb m2 cap3 _ hown.drew M (by simp [maxLen]; omega) (by omega) (by omega) (by omega) (by have : wr.drew.heap.size = wr.heap.size := rfl; omega)
            have k3 : wr.drew.cell? ⟨g, 0, none⟩ = some (.slice (some ⟨gb, 0, none⟩) m2 cap3) := hp_cell (j := 0) hb rfl
            have hb5 : w5.heap[g]? = some (.cells #[.slice (some ⟨gb, 0, none⟩) m2 cap3] 43 (0, 0)) := (hgrow5.block g hgl hne3).trans hb
            have k5 := hp_cell (j := 0) hb5 rfl
            have f5 := hp_froz hb5 0
            have c8 := hp_cell (j := 0) hb rfl
            have hfin : FS g none wf (L2 ++ List.replicate M 0) (w5.setCell ⟨g, 0, none⟩ (.slice (some ⟨g5, 0, none⟩) (m2 + M) cap5)) := by
              refine FS.step hnx2 hch2 (ob := some gb) (ob' := some g5) ?_ ?_ ?_
              · exact (((Chg.refl _ wr).drew).trans (Chg.grown hgrow5 (fun r e => by cases e; simp [Near]))).trans (near_set w5 0 _)
              · refine ⟨⟨_, heap_set hb5, ?_, rfl⟩, app_lt8 hl8 (fun x hx => by have := (List.mem_replicate.1 hx).2; omega)⟩
                have h9 := hown5.kept (grown_set w5 g 0 (.slice (some ⟨g5, 0, none⟩) (m2 + M) cap5)) (own_apart' hown5 (by omega))
                rw [List.length_append, ← hm2, List.length_replicate]
                have e9 : cellsB (L2 ++ List.replicate M 0) = cellsB L2 ++ List.replicate M (.int .u8 0) := by simp [cellsB]
                rw [e9]
                exact h9
              · rcases hat5 with e | e
                · exact .inl (by rw [e])
                · exact .inr ⟨g5, rfl, by rw [e]; exact Nat.le_refl _⟩
            have e9 : ∀ x, x = a → L ++ (List.range x).flatMap (fun x => pxL P c (y * a + x)) ++ List.replicate (W - P * a) 0 = HL ++ rowsL P a W c b (k + 1) := by
              rintro x rfl
              rw [rowsL_succ, ← List.append_assoc, ← HLe.out, rowL, ← HY.out, List.append_assoc]
            have HFIN : Hid (FS g none wf (HL ++ rowsL P a W c b (k + 1)) (w5.setCell ⟨g, 0, none⟩ (.slice (some ⟨g5, 0, none⟩) (m2 + M) cap5))) := by
              rw [← e9 q HAQ.out.symm, ← HL2.out, ← HM'.out]
              exact Lib.hid hfin
            have HR5 := Lib.hid hr5
            obtain ⟨ml, hml⟩ : ∃ ml, ml = L.length := ⟨_, rfl⟩
            rw [← hml] at hL2l hL1 ⊢
            have f1 : IntKind.i64.wrap ((ml : Int) + (W : Int)) = (ml : Int) + (W : Int) := IntWalk.i64_in _ (by omega)
            have f2 : (ml : Int) + (W : Int) - (m2 : Int) = (M : Int) := by omega
            have f3 : IntKind.i64.wrap (M : Int) = (M : Int) := IntWalk.i64_in _ (by omega)
            clear hpW hM hnx2 hch2 hl8 hgl hL2l hm2 hown hgb hne3 hr5 hown5 hgrow5 hat5 hfin e9 hb5 hb hml
            go_wp2_with fail
            go_region_law (first | (refine step_app0 (by rfl) _ _ _ _ (by rfl) _ _ _ _ (by rfl) (by rfl) HR5.out ?_) | fail)
            all_goals
              go_wp2_with fail
              go_roundw
              case rel => exact ⟨k + 1, hlt, by rw [← HYI.out]; congr 1; omega, HFIN.out⟩
              case measure => have := HYI.out; simp [intOf]
      · have HKB := Lib.hid (show k = b by omega)
        have hge0 : ¬ 0 ≤ (b : Int) - 1 - (k : Int) := by omega
        have hBr := Lib.hid (hS.below HBf.out HBf.out.size (by omega) (fun k h => by cases h))
        obtain ⟨⟨ob2, hfl2, hnx2⟩, hch2⟩ := hS
        obtain ⟨⟨vo, hb, hown, hob⟩, _⟩ := hfl2
        have hLp : 0 < L.length := by rw [HLe.out, List.length_append, hHl]; omega
        have hfile : L = fileL (!opqB N c) c a b := by rw [HLe.out, HHL.out, ← HGT.out, HKB.out, fileL, ← HPe.out, ← HWe.out]
        rw [hfile] at hown hLp
        obtain ⟨F, hF⟩ : ∃ F, F = fileL (!opqB N c) c a b := ⟨_, rfl⟩
        rw [← hF] at hown hLp
        have HF9 := Lib.hid hF
        obtain ⟨gb, cap3, rfl⟩ : ∃ gb cap3, vo = .slice (some ⟨gb, 0, none⟩) F.length cap3 := by
          rcases hown.2 with ⟨_, h0⟩ | ⟨g9, cap9, _, h9, _⟩
          · omega
          · exact ⟨g9, cap9, h9⟩
        have c8 := hp_cell (j := 0) hb rfl
        have HOW := Lib.hid (own_le' (show w.heap.size ≤ g + 1 by omega) hown)
        clear hown hnx2 hch2 hob hfile hF hb hLp
        go_wp2_with fail
        go_ret2
        rw [← HF9.out]
        exact ⟨gb, cap3, rfl, HOW.out, hBr.out⟩
end Go.Proofs.YthgafdbdmemkhaaDoor
