/- LzwRuns: the walk. -/
import Derived.Test.YtioghgnngdcicaaLzRn
import Derived.Test.YtioghgnngdcicaaLzWl
import Derived.Test.YtioghgnngdcicaaLzL2
import Derived.Test.YtioghgnngdcicaaLzBp
namespace Go.Proofs.Ytioghgnngdcicaa
set_option linter.unusedVariables false
open Go.ChangeShapes Go.WideShapes Go.ChangeAt Go.RowKit

theorem mask_facts (v sz : Nat) (hv : v < 256) (h1 : 2 ≤ sz) (h2 : sz ≤ 8) : ∃ p q : Nat, p < 256 ∧ q < 256 ∧ IntKind.u8.wrap ((2 : Int) ^ sz) = (p : Int) ∧ IntKind.u8.wrap ((p : Int) - 1) = (q : Int) ∧ bits BinOp.and IntKind.u8 (v : Int) (q : Int) = ((v % 2 ^ sz : Nat) : Int) := by
  have key : ∀ q : Nat, q = 2 ^ sz - 1 → q < 256 → bits BinOp.and IntKind.u8 (v : Int) (q : Int) = ((v % 2 ^ sz : Nat) : Int) := fun q hq hq2 => by
    rw [u8_and_nat v q hv hq2, hq, Nat.and_two_pow_sub_one_eq_mod]
  have h : sz = 2 ∨ sz = 3 ∨ sz = 4 ∨ sz = 5 ∨ sz = 6 ∨ sz = 7 ∨ sz = 8 := by omega
  rcases h with rfl | rfl | rfl | rfl | rfl | rfl | rfl
  · exact ⟨4, 3, by omega, by omega, by decide, by decide, key 3 rfl (by omega)⟩
  · exact ⟨8, 7, by omega, by omega, by decide, by decide, key 7 rfl (by omega)⟩
  · exact ⟨16, 15, by omega, by omega, by decide, by decide, key 15 rfl (by omega)⟩
  · exact ⟨32, 31, by omega, by omega, by decide, by decide, key 31 rfl (by omega)⟩
  · exact ⟨64, 63, by omega, by omega, by decide, by decide, key 63 rfl (by omega)⟩
  · exact ⟨128, 127, by omega, by omega, by decide, by decide, key 127 rfl (by omega)⟩
  · exact ⟨0, 255, by omega, by omega, by decide, by decide, key 255 rfl (by omega)⟩
/-- i of them are set. -/
def filR (N u i : Nat) : List Nat := List.replicate i u ++ List.replicate (N - i) 0
theorem filR_len {N u i : Nat} (h : i ≤ N) : (filR N u i).length = N := by unfold filR; simp; omega
theorem filR_set {N u i : Nat} (h : i < N) : (filR N u i).set i u = filR N u (i + 1) := by
  unfold filR
  rw [List.set_append_right _ _ (by simp)]
  obtain ⟨j, hj⟩ : ∃ j, N - i = j + 1 := ⟨N - i - 1, by omega⟩
  rw [hj, show N - (i + 1) = j by omega, List.length_replicate, Nat.sub_self, List.replicate_succ, List.set_cons_zero, List.replicate_succ']
  simp
theorem fil_get {N u i : Nat} (h : i < N) : (filR N u i)[i]? = some 0 := by
  unfold filR
  rw [List.getElem?_append_right (by simp), List.length_replicate, Nat.sub_self]
  obtain ⟨j, hj⟩ : ∃ j, N - i = j + 1 := ⟨N - i - 1, by omega⟩
  rw [hj]
  simp
/-- What the loop that writes the codes has. -/
def RxR (w0 : World) (u sz cl N : Nat) (bits : List Nat) (ob : Option Nat) (at_ row wd nx : Nat) (w : World) : Prop :=
  PkR w0 w0.heap.size bits ob w ∧ RnI u sz cl N bits at_ row wd nx ∧ at_ ≤ N ∧ bits.length ≤ 12 * row ∧ row ≤ at_ + 1 ∧ 2 ≤ row ∧ sz + 1 ≤ wd ∧ wd ≤ 12 ∧ nx ≤ 4096 ∧ 4 ≤ nx ∧ 1 ≤ at_
/-- What it leaves. -/
def RxE (w0 : World) (u sz cl N : Nat) (wd at_ : Nat) (w : World) : Prop :=
  ∃ bits ob row nx, RxR w0 u sz cl N bits ob at_ row wd nx w
theorem wdN_bd {wd nx sz : Nat} (h1 : sz + 1 ≤ wd) (h2 : wd ≤ 12) : sz + 1 ≤ wdN wd nx ∧ wdN wd nx ≤ 12 := by
  unfold wdN
  split <;> omega
theorem RxR.next {w0 : World} {u sz cl N : Nat} {bits : List Nat} {ob ob' : Option Nat} {at_ row wd nx : Nat} {w w' : World} (h : RxR w0 u sz cl N bits ob at_ row wd nx w) (hs : 2 ≤ sz) (hcl : cl = 2 ^ sz) (hn : nx < 4096) (hat : at_ + row ≤ N) (hk : PkR w0 w0.heap.size (bits ++ numB false ((nx : Nat) : Int) wd) ob' w') :
    RxR w0 u sz cl N (bits ++ numB false ((nx : Nat) : Int) wd) ob' (at_ + row) (row + 1) (wdN wd nx) (nx + 1) w' := by
  obtain ⟨h1, h2, h3, h4, h5, h6, h7, h8, h9, h10, h11⟩ := h
  obtain ⟨g1, g2⟩ := wdN_bd (nx := nx) h7 h8
  exact ⟨hk, h2.next hs hcl hn, hat, by rw [List.length_append, numB_len]; omega, by omega, by omega, g1, g2, by omega, by omega, by omega⟩
set_option maxRecDepth 1000000 in
set_option maxHeartbeats 4000000 in
theorem runs_walk (v many size : Nat) (hv : v < 256) (hmany : many < 65536) (hsize : size < 256) (w : World) :
    Calls Try.prog 6 #[.int .u8 (v : Nat), .int .u16 (many : Nat), .int .u8 (size : Nat)] w fun e w' => e = .returned (.bool true) ∧ Below w.heap.size w w' := by
  obtain ⟨i0, hi0, hz0, hz1, hz2⟩ := info_parts info8
  go_enter Try.func6, Try.ntmps6
  go_wp2_with fail
  refine (awake7 _).mono ?_
  rintro e w1 ⟨rfl, hB1⟩
  have HB1 := Lib.hid hB1
  clear hB1
  obtain ⟨N, hN⟩ : ∃ N, N = 1 + many % 20000 := ⟨_, rfl⟩
  obtain ⟨sz, hsz⟩ : ∃ sz, sz = 2 + size % 7 := ⟨_, rfl⟩
  have hN1 : 1 ≤ N := by omega
  have hN2 : N ≤ 20000 := by omega
  have hs2 : 2 ≤ sz := by omega
  have hs8 : sz ≤ 8 := by omega
  have HE1 := Lib.hid (show (2 : Int) + (size : Int) % 7 = (sz : Int) by omega)
  have HE2 := Lib.hid (show (1 : Int) + (many : Int) % 20000 = (N : Int) by omega)
  obtain ⟨hc4, hc256⟩ := cl_bound hs2 hs8
  obtain ⟨cl, hcl⟩ : ∃ cl, cl = 2 ^ sz := ⟨_, rfl⟩
  rw [← hcl] at hc4 hc256
  have HWP := Lib.hid (show wrap64 ((2 : Int) ^ sz) = (cl : Int) by rw [wrap_pow sz (by omega), hcl])
  obtain ⟨p, q, hp, hq, m1, m2, m3⟩ := mask_facts v sz hv hs2 hs8
  rw [← hcl] at m3
  obtain ⟨u, hu⟩ : ∃ u, u = v % cl := ⟨_, rfl⟩
  have hucl : u < cl := by rw [hu]; exact Nat.mod_lt _ (by omega)
  rw [← hu] at m3
  have HM1 := Lib.hid m1
  have HM2 := Lib.hid m2
  have HM3 := Lib.hid m3
  clear m1 m2 m3
  obtain ⟨w2, hmk, hown2, hgrow2⟩ := run_makeSlice_full (P := Try.prog) (w := w1) w1.heap.size 22 5 i0 _ 1 Try.underlying22 hi0 hz0 hz1 .i64 .i64 N (by omega) (by rw [hz2]; omega) (by unfold maxLen; omega) (Nat.le_refl _)
  have hz9 : (madeCells (Value.int .u8 0).cells (N * 1)).toList = cellsB (filR N u 0) := by
    rw [Nat.mul_one, show (Value.int .u8 0).cells = #[Value.int .u8 0] from rfl, toList_madeCells_one]
    simp [cellsB, filR]
  rw [hz9] at hown2
  have HO2 := Lib.hid hown2
  have HB2 := Lib.hid ((Below.refl w1.heap.size w1).grown hgrow2 (Nat.le_refl _) (fun k e => by cases e))
  have HCL := Lib.hid hcl
  clear hown2 hgrow2 hz9 hu hcl hsz hN
  have e1 := HE1.out
  have e2 := HE2.out
  go_wp2_with fail
  clear hmk e1 e2
  go_loopw [9] (fun s9 wr => ∃ i : Nat, i ≤ N ∧ s9 = .int .i64 (i : Nat) ∧ wr.ownsRow w1.heap.size 5 1 (.slice (some ⟨w1.heap.size, 0, none⟩) N N) N (cellsB (filR N u i)) ∧ Below w1.heap.size w1 wr) (fun s9 _ => N - (intOf s9).toNat)
  case atStart => exact ⟨0, by omega, rfl, HO2.out, HB2.out⟩
  case round =>
    clear HO2 HB2
    obtain ⟨i, hi, rfl, hown, hB⟩ := hrel
    by_cases hlt : i < N
    · have hcell := own_cell (j := i) (x := 0) hown (fil_get hlt)
      have ff := own_froz hown
      have hnew := own_set (j := i) (x := u) hown
      rw [filR_set hlt] at hnew
      have HNW := Lib.hid hnew
      have HBN := Lib.hid (hB.setCell (p := ⟨w1.heap.size, i, none⟩) (Nat.le_refl _) (.int .u8 (u : Nat)))
      clear hnew hown hB
      have m1 := HM1.out
      have m2 := HM2.out
      have m3 := HM3.out
      go_wp2
      clear m1 m2 m3
      go_roundw
      case rel => exact ⟨i + 1, by omega, by go_num, HNW.out, HBN.out⟩
      case measure => simp [intOf]; omega
    · obtain rfl : i = N := by omega
      obtain ⟨wz, hwz⟩ : ∃ wz, wz = wr := ⟨_, rfl⟩
      subst hwz
      have hfil : filR i u i = List.replicate i u := by unfold filR; simp
      rw [hfil] at hown
      obtain ⟨A2, c2, he, q1, q2, q3, q4⟩ := byt_of_row (o := List.replicate i u) (own_len (by simp) hown)
      injection he with g1 g2 g3
      subst g1 g3
      have hby : Byt wz (some ⟨w1.heap.size, 0, none⟩) i (fun _ => u) := fun hn => by
        rw [List.length_replicate] at q4
        obtain ⟨bk, off, he, hlt, hc⟩ := q4 hn
        refine ⟨bk, off, he, hlt, fun j hj => ?_⟩
        have := hc j hj
        simpa [hj] using this
      have HBY := Lib.hid hby
      have HBr := Lib.hid (HB1.out.trans (hB.mono HB1.out.size))
      have hb0 := hby (by omega)
      obtain ⟨bk, off, he2, hbk, hc0⟩ := hb0
      injection he2 with he2
      injection he2 with k1 k2
      subst k1 k2
      have hcell0 := hc0 0 (by omega)
      rw [Nat.add_zero] at hcell0
      clear hown hB hfil q1 q2 q3 q4 g2 hby hc0
      have X1 := Lib.hid (in64_nat (k := cl) (by omega))
      have X2 := Lib.hid (in64_nat (k := u) (by omega))
      have X3 := Lib.hid (in64_nat (k := cl + 1) (by omega))
      have hs9 : sz + 1 ≤ 60 := by omega
      have hl3 : ([] ++ numB false ((cl : Nat) : Int) (sz + 1)).length ≤ 500000 := by rw [List.nil_append, numB_len]; omega
      have hwp := HWP.out
      go_wp2_with fail
      refine (pkR_put (pkR_new wz _ (Below.refl _ _)) (by simp) (cl : Nat) X1.out (sz + 1) hs9).mono ?_
      rintro e w3 ⟨rfl, ob3, hK3⟩
      have hcell1 := (hK3.2.1.cell (p := ⟨w1.heap.size, 0, none⟩) hbk).trans hcell0
      have HK3 := Lib.hid hK3
      have HL3 := Lib.hid hl3
      clear hK3 hwp hlt hi hl3
      go_wp2_with fail
      refine (pkR_put HK3.out HL3.out (u : Nat) X2.out (sz + 1) hs9).mono ?_
      rintro e w4 ⟨rfl, ob4, hK4⟩
      have hcb0 : ([] ++ numB false ((cl : Nat) : Int) (sz + 1)) ++ numB false ((u : Nat) : Int) (sz + 1) = cb (sz + 1) [cl, u] := by simp [cb]
      rw [hcb0] at hK4
      have hI4 := rnI_first (most := i) hs2 hs8 HCL.out hucl
      have HK4 := Lib.hid hK4
      have HI4 := Lib.hid hI4
      have hl4 : (cb (sz + 1) [cl, u]).length ≤ 24 := by rw [cb_len]; simp; omega
      clear hcb0 hK4 hI4 hcell1 hcell0 HK3
      have HR4 : Hid (RxR wz u sz cl i (cb (sz + 1) [cl, u]) ob4 1 2 (sz + 1) (cl + 2) w4) := Lib.hid ⟨HK4.out, HI4.out, by omega, by omega, by omega, by omega, by omega, by omega, by omega, by omega, by omega⟩
      clear HK4 HI4 hl4 HL3 hs9
      go_upto_block 2 with fail
      go_cut [12, 14] (fun s12 s14 wx => ∃ wd at_ : Nat, s12 = .int .i64 (wd : Nat) ∧ s14 = .int .i64 (at_ : Nat) ∧ RxE wz u sz cl i wd at_ wx)
      case first =>
        go_wp2_with fail
        go_loopw [12, 13, 14, 15] (fun s12 s13 s14 s15 wx => ∃ bits ob at_ row wd nx, s12 = .int .i64 (wd : Nat) ∧ s13 = .int .i64 (nx : Nat) ∧ s14 = .int .i64 (at_ : Nat) ∧ s15 = .int .i64 (row : Nat) ∧ RxR wz u sz cl i bits ob at_ row wd nx wx) (fun _ _ s14 _ _ => i - (intOf s14).toNat)
        case atStart => exact ⟨_, ob4, 1, 2, sz + 1, cl + 2, by go_num, by go_num, rfl, rfl, HR4.out⟩
        case round =>
          clear HR4
          obtain ⟨bits, ob, at_, row, wd, nx, rfl, rfl, rfl, rfl, hR⟩ := hrel
          obtain ⟨h1, h2, h3, h4, h5, h6, h7, h8, h9, h10, h11⟩ := hR
          have HR := Lib.hid (show RxR wz u sz cl i bits ob at_ row wd nx _ from ⟨h1, h2, h3, h4, h5, h6, h7, h8, h9, h10, h11⟩)
          clear h1 h2
          by_cases c1 : row ≤ i - at_
          · by_cases c2 : nx < 4096
            · have t1 : decide ((row : Int) ≤ (i : Int) - (at_ : Int)) = true := by simp; omega
              have t2 : decide (nx < 4096) = true := by simp; omega
              have t2' : decide ((nx : Int) < 4096) = true := by simp; omega
              have hx64 := Lib.hid (in64_nat (k := nx) (by omega))
              have hbl : bits.length ≤ 500000 := by omega
              have hw60 : wd ≤ 60 := by omega
              go_wp2_with fail
              refine (pkR_put HR.out.1 hbl (nx : Nat) hx64.out wd hw60).mono ?_
              rintro e w5 ⟨rfl, ob5, hK5⟩
              have HNX := Lib.hid (HR.out.next hs2 HCL.out c2 (by omega) hK5)
              obtain ⟨P, hP⟩ : ∃ P, P = 2 ^ wd := ⟨_, rfl⟩
              have hP12 : P ≤ 4096 := by rw [hP]; exact Nat.pow_le_pow_right (n := 2) (j := 12) (by omega) h8
              have HPW := Lib.hid (show wrap64 ((2 : Int) ^ wd) = (P : Int) by rw [wrap_pow wd h8, hP])
              have HM : Hid (i - (at_ + row) < i - at_) := Lib.hid (by omega)
              have HP := Lib.hid hP
              clear hK5 hbl hw60 hP
              by_cases c3 : nx + 1 = P
              · by_cases c4 : wd < 12
                · have HW : Hid (wdN wd nx = wd + 1) := Lib.hid (by unfold wdN; rw [if_pos ⟨by rw [← HP.out]; exact c3, c4⟩])
                  have t3 : ((nx : Int) + 1 == (P : Int)) = true := by simp; omega
                  have t4 : decide (wd < 12) = true := by simp; omega
                  have t4' : decide ((wd : Int) < 12) = true := by simp; omega
                  have hpw := HPW.out
                  clear c3
                  go_wp2_with fail
                  clear hpw
                  go_roundw
                  case rel => exact ⟨_, ob5, at_ + row, row + 1, wd + 1, nx + 1, by go_num, by go_num, by go_num, by go_num, by rw [← HW.out]; exact HNX.out⟩
                  case measure => have := HM.out; simp [intOf]; omega
                · have HW : Hid (wdN wd nx = wd) := Lib.hid (by unfold wdN; rw [if_neg (by omega)])
                  have t3 : ((nx : Int) + 1 == (P : Int)) = true := by simp; omega
                  have t4 : decide (wd < 12) = false := by simp; omega
                  have t4' : decide ((wd : Int) < 12) = false := by simp; omega
                  have hpw := HPW.out
                  clear c3
                  go_wp2_with fail
                  clear hpw
                  go_roundw
                  case rel => exact ⟨_, ob5, at_ + row, row + 1, wd, nx + 1, rfl, by go_num, by go_num, by go_num, by have := HNX.out; rwa [HW.out] at this⟩
                  case measure => have := HM.out; simp [intOf]; omega
              · have HW : Hid (wdN wd nx = wd) := Lib.hid (by unfold wdN; rw [if_neg (by rw [← HP.out]; omega)])
                have t3 : ((nx : Int) + 1 == (P : Int)) = false := by simp; omega
                have hpw := HPW.out
                clear c3
                go_wp2_with fail
                clear hpw
                go_roundw
                case rel => exact ⟨_, ob5, at_ + row, row + 1, wd, nx + 1, rfl, by go_num, by go_num, by go_num, by have := HNX.out; rwa [HW.out] at this⟩
                case measure => have := HM.out; simp [intOf]; omega
            · have t1 : decide ((row : Int) ≤ (i : Int) - (at_ : Int)) = true := by simp; omega
              have t2 : decide (nx < 4096) = false := by simp; omega
              have t2' : decide ((nx : Int) < 4096) = false := by simp; omega
              go_wp2_with fail
              go_meet
              exact ⟨wd, at_, rfl, rfl, _, _, _, _, HR.out⟩
          · have t1 : decide ((row : Int) ≤ (i : Int) - (at_ : Int)) = false := by simp; omega
            go_wp2_with fail
            go_meet
            exact ⟨wd, at_, rfl, rfl, _, _, _, _, HR.out⟩
      case rest =>
        clear HR4
        obtain ⟨wd, at_, rfl, rfl, bits, ob, row, nx, hR⟩ := hcut
        obtain ⟨h1, h2, h3, h4, h5, h6, h7, h8, h9, h10, h11⟩ := hR
        have hfin := h2.fin hs2 hs8 HCL.out h7 h3 h1.1.lt
        obtain ⟨B, hB⟩ : ∃ B, B = bits ++ numB false ((cl + 1 : Nat) : Int) wd := ⟨_, rfl⟩
        rw [← hB] at hfin
        have hBl : B.length ≤ 500000 := by rw [hB, List.length_append, numB_len]; omega
        have hpl : (pack false B).1.length ≤ 100000 := by rw [pack_len]; omega
        have hB2 : ∀ v ∈ B, v < 2 := fun v hv => by
          rw [hB] at hv
          rcases List.mem_append.1 hv with h | h
          · exact h1.1.lt v h
          · exact numB_lt _ _ _ v h
        have HPT := Lib.hid (gz_lt (pack_lt' false B hB2))
        have hbl : bits.length ≤ 500000 := by omega
        have hw60 : wd ≤ 60 := by omega
        have HFN := Lib.hid hfin
        have HB := Lib.hid hB
        have HK := Lib.hid h1
        have hat : at_ ≤ i := h3
        have hfit : fitsB ((sz : Nat) : Int) (List.replicate i u).length (gz (List.replicate i u)) = true := decide_eq_true ⟨by omega, fun j hj => by
          have h8 : gz (List.replicate i u) j = u := by
            rw [List.length_replicate] at hj
            unfold gz
            simp [hj]
          rw [h8]
          have := HCL.out
          simpa [← this] using hucl⟩
        have HFI := Lib.hid hfit
        have hlr : (List.replicate i u).length ≤ 100000 := by rw [List.length_replicate]; omega
        have HLR := Lib.hid hlr
        have HG2 := Lib.hid (show ∀ j, gz (List.replicate i u) j < 256 from gz_lt (fun v hv => by have := (List.mem_replicate.1 hv).2; omega))
        have HBI := Lib.hid (show Byt wz (some ⟨w1.heap.size, 0, none⟩) (List.replicate i u).length (gz (List.replicate i u)) from fun hn => by
          rw [List.length_replicate] at hn
          obtain ⟨bk, off, he, hlt, hc⟩ := HBY.out hn
          refine ⟨bk, off, he, hlt, fun j hj => ?_⟩
          rw [List.length_replicate] at hj
          rw [hc j hj]
          unfold gz
          simp [hj])
        clear h1 h2 h3 h4 h5 h6 h9 h10 h11 hfin hB hB2 hfit hlr h7 h8
        go_wp2_with fail
        refine (pkR_put HK.out hbl ((cl + 1 : Nat) : Int) X3.out wd hw60).mono ?_
        rw [← HB.out]
        rintro e w6 ⟨rfl, ob6, hK6⟩
        have HK6 := Lib.hid hK6
        clear hK6 HK
        go_wp2_with fail
        refine (pkR_out HK6.out hBl).mono ?_
        rintro e w7 ⟨A7, cap7, rfl, hN7, hB7⟩
        have HB7 := Lib.hid (HK6.out.2.1.trans (hB7.mono HK6.out.2.1.size))
        have HN7 := Lib.hid hN7
        clear hN7 hB7 HK6
        go_wp2_with fail
        have hcall := read_lzw A7 (pack false B).1.length cap7 (gz (pack false B).1) HPT.out HN7.out.le HN7.out.max HN7.out.nil (by omega) (sz : Nat) (i : Nat) (by omega) _ HN7.out.byt
        rw [HFN.out] at hcall
        dsimp only at hcall
        rw [List.length_replicate] at hcall
        refine hcall.mono ?_
        rintro e w8 ⟨A8, cap8, rfl, hN8, hB8⟩
        have HB8 := Lib.hid (HB7.out.trans (hB8.mono HB7.out.size))
        have HN8 := Lib.hid hN8
        clear hN8 hB8 hcall HB7 HN7
        go_wp2_with fail
        have hcall := write_fit (some ⟨w1.heap.size, 0, none⟩) i (List.replicate i u) HG2.out sz HLR.out _ (HBI.out.below HB8.out) HFI.out
        rw [List.length_replicate] at hcall
        refine hcall.mono ?_
        rintro e w9 ⟨A9, cap9, rfl, hN9, hB9⟩
        have HB9 := Lib.hid (HB8.out.trans (hB9.mono HB8.out.size))
        have HN89 := Lib.hid (HN8.out.chgB hB9)
        have HN9 := Lib.hid hN9
        clear hN9 hB9 hcall HB8 HN8
        go_wp2_with fail
        have hcall := ref_back A9 cap9 (List.replicate i u) sz HFI.out HLR.out HN9.out.le HN9.out.max HN9.out.nil _ HN9.out.byt
        rw [List.length_replicate] at hcall
        refine hcall.mono ?_
        rintro e wy ⟨Ay, capy, rfl, hNy, hBy⟩
        have HBy := Lib.hid (HB9.out.trans (hBy.mono HB9.out.size))
        have hN8y := HN89.out.chgB hBy
        have hIy := HBI.out.below HBy.out
        rw [List.length_replicate] at hIy
        have hIa : Byt wy (some ⟨w1.heap.size, 0, none⟩) at_ (gz (List.replicate at_ u)) := fun hn => by
          obtain ⟨bk, off, he, hlt, hc⟩ := hIy (by omega)
          refine ⟨bk, off, he, hlt, fun j hj => ?_⟩
          rw [hc j (by omega)]
          unfold gz
          simp [hj, show j < i by omega]
        have r1 : ∀ k, (convert 22 9 (.slice A8 at_ cap8)).run Try.prog (wy.drewN k) = .ok (.string (strB at_ (gz (List.replicate at_ u)))) (wy.drewN k) := fun k => run_str (cap := cap8) (hN8y.byt.below (below_drewN (Below.refl _ wy) k))
        have r2 : ∀ k, (convert 22 9 (.slice (some ⟨w1.heap.size, 0, none⟩) at_ i)).run Try.prog (wy.drewN k) = .ok (.string (strB at_ (gz (List.replicate at_ u)))) (wy.drewN k) := fun k => run_str (cap := i) (hIa.below (below_drewN (Below.refl _ wy) k))
        have r3 : ∀ k, (convert 22 9 (.slice Ay i capy)).run Try.prog (wy.drewN k) = .ok (.string (strB i (gz (List.replicate i u)))) (wy.drewN k) := fun k => run_str (cap := capy) (hNy.byt.below (below_drewN (Below.refl _ wy) k))
        have r4 : ∀ k, (convert 22 9 (.slice (some ⟨w1.heap.size, 0, none⟩) i i)).run Try.prog (wy.drewN k) = .ok (.string (strB i (gz (List.replicate i u)))) (wy.drewN k) := fun k => run_str (cap := i) (hIy.below (below_drewN (Below.refl _ wy) k))
        have RH := fun W => run_hi (some ⟨w1.heap.size, 0, none⟩) i i at_ hat W
        have s1 := ba_beq (strB at_ (gz (List.replicate at_ u)))
        have s2 := ba_beq (strB i (gz (List.replicate i u)))
        clear hNy hBy hN8y hIy hIa HN89 HN9 HB9 hcall HFN HFI HLR HG2 HBI
        go_upto_region 24 with fail
        go_quiet (fail)
        go_wp2
        go_ret
        exact ⟨rfl, below_drewN (HBr.out.trans (HBy.out.mono HBr.out.size)) _⟩
end Go.Proofs.Ytioghgnngdcicaa
