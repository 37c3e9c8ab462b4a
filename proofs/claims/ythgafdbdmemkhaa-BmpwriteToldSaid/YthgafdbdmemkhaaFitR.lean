/- depth.Fits and engraverref8.Fits. -/
import Derived.Test.YthgafdbdmemkhaaFits
namespace Go.Proofs.Ythgafdbdmemkhaa
set_option linter.unusedVariables false
open Go.ChangeShapes Go.WideShapes Go.ChangeAt Go.RowKit

/-- Whether a format can hold a picture. -/
def fitsB (a b : Int) (n : Nat) (c : Nat → Nat) (f : Int) : Bool :=
  mayB a b n && (decide (f = 1) || (decide (f = 3) && bytesB n c) || (decide (f = 2) && (colB c (n / 4) 256 && (bytesB n c && clearB (n / 4) c))))
theorem fits_may {a b : Int} {n : Nat} {c : Nat → Nat} {f : Int} (h : fitsB a b n c f = true) : mayB a b n = true := by
  unfold fitsB at h
  cases hm : mayB a b n
  · rw [hm] at h; simp at h
  · rfl
theorem may_nat {a b : Int} {n : Nat} (h : mayB a b n = true) : ∃ a' b' N : Nat, a = (a' : Int) ∧ b = (b' : Int) ∧ n = 4 * N ∧ 1 ≤ N ∧ N ≤ 16384 ∧ (a' : Int) * (b' : Int) = (N : Int) := by
  obtain ⟨N, h1, h2, h3, h4⟩ := may_four h
  obtain ⟨s1, s2, s3, s4, s5⟩ := size_ok (may_ok h).1
  obtain ⟨a', rfl⟩ := Int.eq_ofNat_of_zero_le (show 0 ≤ a by omega)
  obtain ⟨b', rfl⟩ := Int.eq_ofNat_of_zero_le (show 0 ≤ b by omega)
  exact ⟨a', b', N, rfl, rfl, h1, h2, h3, h4⟩

set_option maxRecDepth 100000 in
set_option maxHeartbeats 2000000 in
theorem fits_prog (a b : Int) (A : Option Addr) (n cap : Nat) (c : Nat → Nat) (f : Int) (hc : ∀ i, c i < 65536) (ha : In64 a) (hb : In64 b) (hf : In64 f) (hn : n ≤ cap) (hmax : cap ≤ maxLen) (w : World) (hP : Pix w A n c) :
    Calls Try.prog 14 #[.agg #[.int .i64 a, .int .i64 b, .slice A n cap], .int .i64 f] w fun e w' => e = .returned (.bool (fitsB a b n c f)) ∧ Below w.heap.size w w' := by
  have hbx0 := hp_new0 w (.cells #[.int .i64 a, .int .i64 b, .slice A n cap] 26)
  have hB0 : Below w.heap.size w (w.alloc (.cells #[.int .i64 a, .int .i64 b, .slice A n cap] 26)) := (Below.refl _ _).alloc (Nat.le_refl _) _
  have hS0 : (w.alloc (.cells #[.int .i64 a, .int .i64 b, .slice A n cap] 26)).heap.size = w.heap.size + 1 := World.size_alloc _ _
  cases hm : mayB a b n with
  | false =>
    have HF := Lib.hid (show fitsB a b n c f = false by simp [fitsB, hm])
    have HM := Lib.hid hm
    clear hm
    go_enter Try.func14, Try.ntmps14
    go_wp2_with fail
    refine (may_prog a b A n cap ha hb hn hmax _).mono ?_
    rintro e w2 ⟨rfl, hB⟩
    rw [HM.out]
    have HB := Lib.hid (hB0.trans (hB.mono hB0.size))
    clear hB hB0 hbx0
    go_wp2
    go_ret
    exact ⟨ret_b HF.out.symm, HB.out⟩
  | true =>
    have HM := Lib.hid hm
    clear hm
    go_enter Try.func14, Try.ntmps14
    go_wp2_with fail
    refine (may_prog a b A n cap ha hb hn hmax _).mono ?_
    rintro e w2 ⟨rfl, hB⟩
    rw [HM.out]
    have hbx := hp_below hbx0 hB (by omega)
    have hB2 := hB0.trans (hB.mono hB0.size)
    have k0 := hp_cell (j := 0) hbx rfl
    have k1 := hp_cell (j := 1) hbx rfl
    have k2 := hp_cell (j := 2) hbx rfl
    have hs2 : w.heap.size < w2.heap.size := (Array.getElem?_eq_some_iff.1 hbx).1
    clear hB hbx0 hS0
    have hfc : f = 1 ∨ f = 3 ∨ f = 2 ∨ (f ≠ 1 ∧ f ≠ 2 ∧ f ≠ 3) := by omega
    rcases hfc with rfl | rfl | rfl | ⟨f1, f2, f3⟩
    · have HF := Lib.hid (show fitsB a b n c 1 = true by simp [fitsB, HM.out])
      go_wp2_with fail
      go_ret
      exact ⟨ret_b HF.out.symm, hB2⟩
    · have HF := Lib.hid (show fitsB a b n c 3 = bytesB n c by simp [fitsB, HM.out])
      have HPw := Lib.hid (hP.below hB2)
      have HC := Lib.hid hc
      have HB2 := Lib.hid hB2
      clear hc hB2
      go_wp2_with fail
      refine (bytes_prog a b A n cap c HC.out hn hmax _ HPw.out).mono ?_
      rintro e w3 ⟨rfl, hB⟩
      have HB3 := Lib.hid (HB2.out.trans (hB.mono HB2.out.size))
      clear hB
      go_wp2_with fail
      go_ret
      exact ⟨ret_b HF.out.symm, HB3.out⟩
    · obtain ⟨bn, hbn⟩ : ∃ x, bytesB n c = x := ⟨_, rfl⟩
      obtain ⟨cn, hcn⟩ : ∃ x, clearB (n / 4) c = x := ⟨_, rfl⟩
      obtain ⟨un, hun⟩ : ∃ x, colB c (n / 4) 256 = x := ⟨_, rfl⟩
      have HF := Lib.hid (show fitsB a b n c 2 = (un && (bn && cn)) by simp [fitsB, HM.out, hbn, hcn, hun])
      have HBN := Lib.hid hbn
      have HCN := Lib.hid hcn
      have hcv : colV a b n c 256 = .tuple #[.int .i64 (colN c (n / 4) 256), .bool un] := by unfold colV; rw [if_pos HM.out, hun]
      have HV := Lib.hid hcv
      have HPw := Lib.hid (hP.below hB2)
      have HC := Lib.hid hc
      have HB2 := Lib.hid hB2
      clear hc hB2 hcv hbn hcn hun
      go_wp2_with fail
      refine (col_any a b A n cap c HC.out 256 ha hb hn hmax _ HPw.out).mono ?_
      rintro e w3 ⟨rfl, hB⟩
      rw [HV.out]
      have hbx3 := hp_below hbx hB hs2
      have HPw3 := Lib.hid (HPw.out.below hB)
      have HB3 := Lib.hid (HB2.out.trans (hB.mono HB2.out.size))
      have hs3 : w.heap.size < w3.heap.size := Nat.lt_of_lt_of_le hs2 hB.size
      clear hB k0 k1 k2 hbx
      have k0 := hp_cell (j := 0) hbx3 rfl
      have k1 := hp_cell (j := 1) hbx3 rfl
      have k2 := hp_cell (j := 2) hbx3 rfl
      cases un with
      | false =>
        go_wp2_with fail
        go_ret
        exact ⟨ret_b HF.out.symm, HB3.out⟩
      | true =>
        go_wp2_with fail
        refine (bytes_prog a b A n cap c HC.out hn hmax _ HPw3.out).mono ?_
        rintro e w4 ⟨rfl, hB⟩
        rw [HBN.out]
        have hbx4 := hp_below hbx3 hB hs3
        have HPw4 := Lib.hid (HPw3.out.below hB)
        have HB4 := Lib.hid (HB3.out.trans (hB.mono HB3.out.size))
        clear hB k0 k1 k2 hbx3
        have k0 := hp_cell (j := 0) hbx4 rfl
        have k1 := hp_cell (j := 1) hbx4 rfl
        have k2 := hp_cell (j := 2) hbx4 rfl
        cases bn with
        | false =>
          go_wp2_with fail
          go_ret
          exact ⟨ret_b HF.out.symm, HB4.out⟩
        | true =>
          obtain ⟨a', b', N', rfl, rfl, hn', _, _, hab⟩ := may_nat HM.out
          have hNN : n / 4 = N' := by omega
          rw [hNN] at HCN
          have HAB := Lib.hid hab
          clear hab hn' hNN
          go_wp2_with fail
          refine (clears_prog a' b' A n cap N' c HAB.out HM.out ha hb hn hmax _ HPw4.out).mono ?_
          rintro e w5 ⟨rfl, hB⟩
          rw [HCN.out]
          have HB5 := Lib.hid (HB4.out.trans (hB.mono HB4.out.size))
          clear hB
          go_wp2_with fail
          go_ret
          exact ⟨ret_b HF.out.symm, HB5.out⟩
    · have HF := Lib.hid (show fitsB a b n c f = false by simp [fitsB, f1, f2, f3])
      have t1 : (f == 1) = false := by rw [beq_eq_false_iff_ne]; exact f1
      have t2 : (f == 2) = false := by rw [beq_eq_false_iff_ne]; exact f2
      have t3 : (f == 3) = false := by rw [beq_eq_false_iff_ne]; exact f3
      go_wp2_with fail
      go_ret
      exact ⟨ret_b HF.out.symm, hB2⟩

theorem fits_else {a b : Int} {n : Nat} {c : Nat → Nat} {f : Int} (h : ¬f = 1 ∧ ¬f = 2 ∧ ¬f = 3) : fitsB a b n c f = false := by
  obtain ⟨h1, h2, h3⟩ := h
  simp [fitsB, h1, h2, h3]
theorem colB_iff {c : Nat → Nat} (hc : ∀ i, c i < 65536) {N : Nat} : colB c N 256 = decide (((U c N).length : Int) ≤ 256) := colB_U hc N 256
set_option maxRecDepth 100000 in
set_option maxHeartbeats 4000000 in
theorem fits_ref (a b : Int) (A : Option Addr) (n cap : Nat) (c : Nat → Nat) (f : Int) (hc : ∀ i, c i < 65536) (ha : In64 a) (hb : In64 b) (hf : In64 f) (hn : n ≤ cap) (hmax : cap ≤ maxLen) (w : World) (hP : Pix w A n c) :
    Calls Try.prog 10 #[.agg #[.int .i64 a, .int .i64 b, .slice A n cap], .int .i64 f] w fun e w' => e = .returned (.bool (fitsB a b n c f)) ∧ Below w.heap.size w w' := by
  have hbx0 := hp_new0 w (.cells #[.int .i64 a, .int .i64 b, .slice A n cap] 26)
  have hB0 : Below w.heap.size w (w.alloc (.cells #[.int .i64 a, .int .i64 b, .slice A n cap] 26)) := (Below.refl _ _).alloc (Nat.le_refl _) _
  have hS0 : (w.alloc (.cells #[.int .i64 a, .int .i64 b, .slice A n cap] 26)).heap.size = w.heap.size + 1 := World.size_alloc _ _
  cases hm : mayB a b n with
  | false =>
    have HF := Lib.hid (show fitsB a b n c f = false by simp [fitsB, hm])
    have HM := Lib.hid hm
    clear hm
    go_enter Try.func10, Try.ntmps10
    go_wp2_with fail
    refine (may_ref a b A n cap ha hb hn hmax _).mono ?_
    rintro e w2 ⟨rfl, hB⟩
    rw [HM.out]
    have HB := Lib.hid (hB0.trans (hB.mono hB0.size))
    clear hB hB0 hbx0
    go_wp2
    go_ret
    exact ⟨ret_b HF.out.symm, HB.out⟩
  | true =>
    have hfc : f = 1 ∨ f = 3 ∨ f = 2 ∨ f < 1 ∨ 3 < f := by omega
    obtain ⟨N, hN, hN1, hN2, hab⟩ := may_four hm
    have HM := Lib.hid hm
    have HN := Lib.hid hN
    have HC := Lib.hid hc
    have hmx := hmax
    unfold maxLen at hmx
    have hn65 : n ≤ 65536 := by omega
    clear hm hc hN hab
    go_enter Try.func10, Try.ntmps10
    go_wp2_with fail
    refine (may_ref a b A n cap ha hb hn hmax _).mono ?_
    rintro e w2 ⟨rfl, hB⟩
    rw [HM.out]
    have hbx := hp_below hbx0 hB (by omega)
    have hB2 := hB0.trans (hB.mono hB0.size)
    have hPw := hP.below hB2
    have hs2 : w.heap.size < w2.heap.size := (Array.getElem?_eq_some_iff.1 hbx).1
    clear hB hbx0 hS0 hB0 hP
    rcases hfc with rfl | rfl | rfl | hlo | hhi
    · have HF := Lib.hid (show fitsB a b n c 1 = true by simp [fitsB, HM.out])
      have HB2 := Lib.hid hB2
      clear hB2
      go_wp2_with fail
      go_loopw [5] (fun v wr => v = .int .i64 0 ∧ wr = w2) (fun _ _ => 0)
      case atStart => exact ⟨rfl, rfl⟩
      case round =>
        obtain ⟨rfl, rfl⟩ := hrel
        have k2 := hp_cell (j := 2) hbx rfl
        by_cases h0 : 0 < n
        · have t0 : decide (0 < n) = true := by simpa using h0
          have t1 : decide ((0 : Int) < (n : Int)) = true := by simp; omega
          go_wp2_with fail
          go_ret
          exact ⟨ret_b HF.out.symm, HB2.out⟩
        · exfalso; have := HN.out; omega
    · have HFt := Lib.hid (show fitsB a b n c 3 = bytesB n c by simp [fitsB, HM.out])
      go_wp2_with fail
      go_loopw [5] (fun v wr => ∃ k : Nat, k ≤ n ∧ v = .int .i64 k ∧ (∀ j, j < k → c j % 257 = 0) ∧ wr = w2) (fun v _ => n - (intOf v).toNat)
      case atStart => exact ⟨0, by omega, rfl, fun j hj => absurd hj (by omega), rfl⟩
      case round =>
        obtain ⟨k, hk, rfl, hag, rfl⟩ := hrel
        have HAG := Lib.hid hag
        clear hag
        have k2 := hp_cell (j := 2) hbx rfl
        by_cases hlt : k < n
        · obtain ⟨bk, off, rfl, hbl, hcl⟩ := hPw (by omega)
          have c0 := hcl k hlt
          have hck := HC.out k
          clear hcl
          have tl : decide (k < n) = true := by simpa using hlt
          by_cases he : c k % 257 = 0
          · have HS := Lib.hid (all_snoc (p := fun j => c j % 257 = 0) HAG.out he)
            have t3 : ((c k : Int) % 257 == 0) = true := by rw [beq_iff_eq]; omega
            have t4 : ((c k : Int) % 257 != 0) = false := by rw [bne_eq_false_iff_eq]; omega
            clear he
            go_wp2_with fail
            go_roundw
            case rel => exact ⟨k + 1, by omega, by go_num, HS.out, trivial⟩
            case measure => simp [intOf]; omega
          · have HF := Lib.hid (bytes_f hlt he)
            have t3 : ((c k : Int) % 257 == 0) = false := by rw [beq_eq_false_iff_ne]; omega
            have t4 : ((c k : Int) % 257 != 0) = true := by rw [bne_iff_ne]; omega
            clear he
            go_wp2_with fail
            go_ret
            exact ⟨ret_b (by rw [HFt.out, HF.out]), hB2⟩
        · obtain rfl : k = n := by omega
          have HF := Lib.hid (bytes_t HAG.out)
          have tl : decide (k < k) = false := by simp
          go_wp2_with fail
          go_ret
          exact ⟨ret_b (by rw [HFt.out, HF.out]), hB2⟩
    · have HFt := Lib.hid (show fitsB a b n c 2 = (colB c (n / 4) 256 && (bytesB n c && clearB (n / 4) c)) by simp [fitsB, HM.out])
      go_wp2_with fail
      go_loopw [5] (fun v wr => ∃ k : Nat, k ≤ n ∧ v = .int .i64 k ∧ (∀ j, j < k → c j % 257 = 0) ∧ Below w2.heap.size w2 wr) (fun v _ => n - (intOf v).toNat)
      case atStart => exact ⟨0, by omega, rfl, fun j hj => absurd hj (by omega), Below.refl _ _⟩
      case round =>
        obtain ⟨k, hk, rfl, hag, hB3⟩ := hrel
        have HAG := Lib.hid hag
        clear hag
        have hbx3 := hp_below hbx hB3 hs2
        have k2 := hp_cell (j := 2) hbx3 rfl
        by_cases hlt : k < n
        · obtain ⟨bk, off, rfl, hbl, hcl⟩ := hPw.below hB3 (by omega)
          have c0 := hcl k hlt
          have hck := HC.out k
          clear hcl
          have tl : decide (k < n) = true := by simpa using hlt
          by_cases he : c k % 257 = 0
          · have HS := Lib.hid (all_snoc (p := fun j => c j % 257 = 0) HAG.out he)
            have t3 : ((c k : Int) % 257 == 0) = true := by rw [beq_iff_eq]; omega
            have t4 : ((c k : Int) % 257 != 0) = false := by rw [bne_eq_false_iff_eq]; omega
            clear he
            go_wp2_with fail
            go_roundw
            case rel => exact ⟨k + 1, by omega, by go_num, HS.out, hB3⟩
            case measure => simp [intOf]; omega
          · have HF := Lib.hid (bytes_f hlt he)
            have t3 : ((c k : Int) % 257 == 0) = false := by rw [beq_eq_false_iff_ne]; omega
            have t4 : ((c k : Int) % 257 != 0) = true := by rw [bne_iff_ne]; omega
            clear he
            go_wp2_with fail
            go_ret
            exact ⟨ret_b (by rw [HFt.out, HF.out]; simp), hB2.trans (hB3.mono hB2.size)⟩
        · obtain rfl : k = n := by omega
          have HF := Lib.hid (bytes_t HAG.out)
          have tl : decide (k < k) = false := by simp
          have hk4 : k / 4 = N := by have := HN.out; omega
          have HFt2 := Lib.hid (show fitsB a b k c 2 = (colB c N 256 && clearB N c) by rw [HFt.out, HF.out, hk4]; simp)
          have hB2' := hB2.trans (hB3.mono hB2.size)
          have hP3 := hPw.below hB3
          have hs3 : w.heap.size < wr.heap.size := Nat.lt_of_lt_of_le hs2 hB3.size
          have hN4 : 4 * (N : Int) = (k : Int) := by have := HN.out; omega
          have hN4' : 4 * N ≤ k ∧ k ≤ 4 * N := by have := HN.out; omega
          have HN4 := Lib.hid hN4
          clear HAG HF hk4 HFt hbx hB2 hPw hB3 hN4
          go_wp2_with fail
          rename World => wo
          clear k2
          go_loopw [6] (fun v wr => ∃ i : Nat, i ≤ N ∧ v = .int .i64 (4 * (i : Int)) ∧ (∀ j, j < i → okPix c j) ∧ Below wo.heap.size wo wr) (fun v _ => k - (intOf v).toNat)
          case atStart => exact ⟨0, by omega, rfl, fun j hj => absurd hj (by omega), Below.refl _ _⟩
          case round =>
            obtain ⟨i, hi, rfl, hag, hB4⟩ := hrel
            have HAG := Lib.hid hag
            clear hag
            have hbx4 := hp_below hbx3 hB4 hs3
            have k2 := hp_cell (j := 2) hbx4 rfl
            by_cases hlt : i < N
            · obtain ⟨bk, off, rfl, hbl, hcl⟩ := hP3.below hB4 (by omega)
              have c0 := hcl (4 * i) (by omega)
              have c1 := hcl (4 * i + 1) (by omega)
              have c2 := hcl (4 * i + 2) (by omega)
              have c3 := hcl (4 * i + 3) (by omega)
              have g0 := HC.out (4 * i)
              have g1 := HC.out (4 * i + 1)
              have g2 := HC.out (4 * i + 2)
              have g3 := HC.out (4 * i + 3)
              clear hcl
              have tl : decide (4 * (i : Int) < (k : Int)) = true := by simp; omega
              by_cases he : okPix c i
              · have HS := Lib.hid (all_snoc HAG.out he)
                rcases okPix_iff.1 he with h3 | ⟨h0, h1, h2, h3⟩
                · have t3 : ((c (4 * i + 3) : Int) == 65535) = true := by rw [beq_iff_eq]; omega
                  have t4 : ((c (4 * i + 3) : Int) != 65535) = false := by rw [bne_eq_false_iff_eq]; omega
                  clear he h3
                  go_wp2_with fail
                  go_roundw
                  case rel => exact ⟨i + 1, by omega, by go_num, HS.out, hB4⟩
                  case measure => simp [intOf]; omega
                · rw [h0] at c0
                  rw [h1] at c1
                  rw [h2] at c2
                  rw [h3] at c3
                  clear he h0 h1 h2 h3
                  go_wp2_with fail
                  go_roundw
                  case rel => exact ⟨i + 1, by omega, by go_num, HS.out, hB4⟩
                  case measure => simp [intOf]; omega
              · have HF := Lib.hid (clear_f hlt he)
                have hne : ¬c (4 * i + 3) = 65535 := fun h => he (okPix_iff.2 (.inl h))
                have t3 : ((c (4 * i + 3) : Int) == 65535) = false := by rw [beq_eq_false_iff_ne]; omega
                have t4 : ((c (4 * i + 3) : Int) != 65535) = true := by rw [bne_iff_ne]; omega
                have hnz : ¬c (4 * i + 3) = 0 ∨ (c (4 * i + 3) = 0 ∧ ¬c (4 * i) = 0) ∨ (c (4 * i + 3) = 0 ∧ c (4 * i) = 0 ∧ ¬c (4 * i + 1) = 0) ∨ (c (4 * i + 3) = 0 ∧ c (4 * i) = 0 ∧ c (4 * i + 1) = 0 ∧ ¬c (4 * i + 2) = 0) := by
                  have h9 : ¬(c (4 * i) = 0 ∧ c (4 * i + 1) = 0 ∧ c (4 * i + 2) = 0 ∧ c (4 * i + 3) = 0) := fun h => he (okPix_iff.2 (.inr h))
                  omega
                clear he hne
                rcases hnz with h | ⟨h3, h⟩ | ⟨h3, h0, h⟩ | ⟨h3, h0, h1, h⟩
                · have t5 : ((c (4 * i + 3) : Int) == 0) = false := by rw [beq_eq_false_iff_ne]; omega
                  have t6 : ((c (4 * i + 3) : Int) != 0) = true := by rw [bne_iff_ne]; omega
                  clear h
                  go_wp2_with fail
                  go_ret
                  exact ⟨ret_b (by rw [HFt2.out, HF.out]; simp), hB2'.trans (hB4.mono hB2'.size)⟩
                · have t5 : ((c (4 * i) : Int) == 0) = false := by rw [beq_eq_false_iff_ne]; omega
                  have t6 : ((c (4 * i) : Int) != 0) = true := by rw [bne_iff_ne]; omega
                  rw [h3] at c3
                  clear h h3 t3 t4
                  go_wp2_with fail
                  go_ret
                  exact ⟨ret_b (by rw [HFt2.out, HF.out]; simp), hB2'.trans (hB4.mono hB2'.size)⟩
                · have t5 : ((c (4 * i + 1) : Int) == 0) = false := by rw [beq_eq_false_iff_ne]; omega
                  have t6 : ((c (4 * i + 1) : Int) != 0) = true := by rw [bne_iff_ne]; omega
                  rw [h3] at c3
                  rw [h0] at c0
                  clear h h3 t3 t4 h0
                  go_wp2_with fail
                  go_ret
                  exact ⟨ret_b (by rw [HFt2.out, HF.out]; simp), hB2'.trans (hB4.mono hB2'.size)⟩
                · have t5 : ((c (4 * i + 2) : Int) == 0) = false := by rw [beq_eq_false_iff_ne]; omega
                  have t6 : ((c (4 * i + 2) : Int) != 0) = true := by rw [bne_iff_ne]; omega
                  rw [h3] at c3
                  rw [h0] at c0
                  rw [h1] at c1
                  clear h h3 t3 t4 h0 h1
                  go_wp2_with fail
                  go_ret
                  exact ⟨ret_b (by rw [HFt2.out, HF.out]; simp), hB2'.trans (hB4.mono hB2'.size)⟩
            · obtain rfl : i = N := by omega
              have HFc := Lib.hid (show clearB i c = true from clear_iff.2 HAG.out)
              have tl : decide (4 * (i : Int) < (k : Int)) = false := by simp; omega
              have hP4 := hP3.below hB4
              obtain ⟨bk, off, rfl, hbl, hcl⟩ := hP4 (by omega)
              have hs4 : w.heap.size < wr.heap.size := Nat.lt_of_lt_of_le hs3 hB4.size
              have HCL := Lib.hid (fun j (hj : j < 4 * i) => hcl j (by omega))
              have HMk := HM.out
              rw [HN.out] at HMk
              have HM2 := Lib.hid HMk
              have k0 := hp_cell (j := 0) hbx4 rfl
              have k1 := hp_cell (j := 1) hbx4 rfl
              have HB4 := Lib.hid (hB2'.trans (hB4.mono hB2'.size))
              have hcu := colB_iff HC.out (N := i)
              have HCU := Lib.hid hcu
              have hki : k = 4 * i := by omega
              have HKI := Lib.hid hki
              clear HMk hcl hB4 hB2' hP3 hP4 hcu hki
              go_wp2_with fail
              rw [HKI.out]
              refine (list_ref a b bk off cap c HC.out i 256 ha hb HM2.out hN1 hN2 (by omega) hmax _ hbl HCL.out).mono ?_
              rintro e w5 ⟨⟨hle, v, u, rfl, rv, ru⟩ | ⟨hgt, rfl⟩, hB5⟩
              · obtain ⟨_, A1, c1, rfl, _, _, _⟩ := Sl.of_own rv
                obtain ⟨_, A2, c2, rfl, _, _, _⟩ := Sl.of_own ru
                have HG := Lib.hid (show fitsB a b k c 2 = true by rw [HFt2.out, HCU.out, HFc.out]; simpa using hle)
                have HB5 := Lib.hid (HB4.out.trans (hB5.mono HB4.out.size))
                clear rv ru hB5 hle
                go_wp2
                go_ret
                exact ⟨ret_b HG.out.symm, HB5.out⟩
              · have HG := Lib.hid (show fitsB a b k c 2 = false by rw [HFt2.out, HCU.out, HFc.out]; simp; omega)
                have HB5 := Lib.hid (HB4.out.trans (hB5.mono HB4.out.size))
                clear hB5 hgt
                go_wp2
                go_ret
                exact ⟨ret_b HG.out.symm, HB5.out⟩
    · have HF := Lib.hid (show fitsB a b n c f = false from fits_else (by omega))
      have t1 : decide (f < 1) = true := by simpa using hlo
      go_wp2_with fail
      go_ret
      exact ⟨ret_b HF.out.symm, hB2⟩
    · have HF := Lib.hid (show fitsB a b n c f = false from fits_else (by omega))
      have t1 : decide (f < 1) = false := by simp; omega
      have t2 : decide (3 < f) = true := by simpa using hhi
      go_wp2_with fail
      go_ret
      exact ⟨ret_b HF.out.symm, hB2⟩
end Go.Proofs.Ythgafdbdmemkhaa
