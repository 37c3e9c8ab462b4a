/- depth.bytes, clears, Fits; engraverref8.Fits. depth.Fits and engraverref8.Fits. Copies: slices.Clone, raster.Copy, engraverref8.Copy. Two pictures compared: slices.Equal, raster.Same, engraverref8.Same. -/
import Derived.Test.YthgafdbdmemkhaaDoorM2
import Derived.Deep.RegionHeld3
import Derived.Deep.AppendLies
namespace Go.Proofs.YthgafdbdmemkhaaDoor
set_option maxRecDepth 100000
set_option linter.unusedVariables false
open Go.ChangeShapes Go.WideShapes Go.ChangeAt Go.RowKit

def bytesB (n : Nat) (c : Nat → Nat) : Bool := (List.range n).all fun j => c j % 257 == 0
theorem bytes_t {n : Nat} {c : Nat → Nat} (h : ∀ j, j < n → c j % 257 = 0) : bytesB n c = true := by simp [bytesB]; exact h
theorem bytes_iff {n : Nat} {c : Nat → Nat} : bytesB n c = true ↔ ∀ j, j < n → c j % 257 = 0 := by simp [bytesB]
theorem bytes_f {n k : Nat} {c : Nat → Nat} (hk : k < n) (h : ¬c k % 257 = 0) : bytesB n c = false := by
  rw [← Bool.not_eq_true, bytes_iff]
  intro h2
  exact h (h2 k hk)
def okB (c : Nat → Nat) (i : Nat) : Bool := c (4 * i + 3) == 65535 || (c (4 * i) == 0 && (c (4 * i + 1) == 0 && (c (4 * i + 2) == 0 && c (4 * i + 3) == 0)))
def okPix (c : Nat → Nat) (i : Nat) : Prop := okB c i = true
theorem okPix_iff {c : Nat → Nat} {i : Nat} : okPix c i ↔ c (4 * i + 3) = 65535 ∨ (c (4 * i) = 0 ∧ c (4 * i + 1) = 0 ∧ c (4 * i + 2) = 0 ∧ c (4 * i + 3) = 0) := by simp [okPix, okB]
def clearB (N : Nat) (c : Nat → Nat) : Bool := (List.range N).all fun i => okB c i
theorem clear_iff {N : Nat} {c : Nat → Nat} : clearB N c = true ↔ ∀ i, i < N → okPix c i := by simp [clearB, okPix]
theorem clear_f {N k : Nat} {c : Nat → Nat} (hk : k < N) (h : ¬okPix c k) : clearB N c = false := by
  rw [← Bool.not_eq_true, clear_iff]
  intro h2
  exact h (h2 k hk)
theorem all_snoc {p : Nat → Prop} {k : Nat} (h : ∀ j, j < k → p j) (hk : p k) : ∀ j, j < k + 1 → p j := by
  intro j hj
  by_cases e : j = k
  · subst e; exact hk
  · exact h j (by omega)

set_option maxRecDepth 100000 in
set_option maxHeartbeats 1000000 in
theorem bytes_prog (a b : Int) (A : Option Addr) (n cap : Nat) (c : Nat → Nat) (hc : ∀ i, c i < 65536) (hn : n ≤ cap) (hmax : cap ≤ maxLen) (w : World) (hP : Pix w A n c) :
    Calls Tryd.prog 30 #[.agg #[.int .i64 a, .int .i64 b, .slice A n cap]] w fun e w' => e = .returned (.bool (bytesB n c)) ∧ Below w.heap.size w w' := by
  unfold maxLen at hmax
  have HC := Lib.hid hc
  clear hc
  go_enter Tryd.func30, Tryd.ntmps30
  go_wp2_with fail
  go_loopw [10] (fun x wr => ∃ k : Nat, k ≤ n ∧ x = .int .i64 k ∧ (∀ j, j < k → c j % 257 = 0) ∧ Below w.heap.size w wr) (fun x _ => n - (intOf x).toNat)
  case atStart => exact ⟨0, by omega, rfl, fun j hj => absurd hj (by omega), (Below.refl _ _).alloc (Nat.le_refl _) _⟩
  case round =>
    obtain ⟨k, hk, rfl, hag, hB⟩ := hrel
    have HAG := Lib.hid hag
    clear hag
    by_cases hlt : k < n
    · obtain ⟨bk, off, rfl, hbl, hcl⟩ := hP (by omega)
      have c0 : wr.cell? ⟨bk, off + k, none⟩ = some (.int .u16 (c k : Nat)) := (hB.cell (p := ⟨bk, off + k, none⟩) hbl).trans (hcl k hlt)
      have hck := HC.out k
      clear hcl hP
      by_cases he : c k % 257 = 0
      · have HS := Lib.hid (all_snoc (p := fun j => c j % 257 = 0) HAG.out he)
        have HE : eightB (c k : Int) = true := by simp [eightB]; omega
        go_wp2_with fail
        refine (eight13 _ (by omega) (by omega) _).mono ?_
        rintro e w' ⟨rfl, rfl⟩
        rw [HE]
        go_wp2_with fail
        go_roundw
        case rel => exact ⟨k + 1, by omega, by go_num, HS.out, hB⟩
        case measure => simp [intOf]; omega
      · have HF := Lib.hid (bytes_f hlt he)
        have HE : eightB (c k : Int) = false := by simp [eightB]; omega
        go_wp2_with fail
        refine (eight13 _ (by omega) (by omega) _).mono ?_
        rintro e w' ⟨rfl, rfl⟩
        rw [HE]
        go_wp2_with fail
        go_ret
        exact ⟨ret_b HF.out.symm, hB⟩
    · obtain rfl : k = n := by omega
      have HF := Lib.hid (bytes_t HAG.out)
      go_wp2_with fail
      go_ret
      exact ⟨ret_b HF.out.symm, hB⟩

theorem run_eq_zero (p : P4) (w : World) : (Op.equalIn 10000 45 (.agg #[.int .u16 (p.1 : Nat), .int .u16 (p.2.1 : Nat), .int .u16 (p.2.2.1 : Nat), .int .u16 (p.2.2.2 : Nat)]) (.agg #[.int .u16 0, .int .u16 0, .int .u16 0, .int .u16 0])).run Tryd.prog w
    = .ok (decide (p = (0, 0, 0, 0))) w := run_eqP p (0, 0, 0, 0) w
theorem row_lt {x y a b N : Nat} (hN : (a : Int) * (b : Int) = (N : Int)) (hx : x < a) (hy : y < b) : y * a + x < N := by
  have h1 : (y + 1) * a ≤ b * a := Nat.mul_le_mul_right _ (by omega)
  have h2 : a * b = N := by rw [← Int.natCast_inj, Int.natCast_mul]; exact hN
  rw [Nat.add_mul, Nat.one_mul] at h1
  rw [Nat.mul_comm b a, h2] at h1
  omega
theorem inB_xy {a b : Nat} {n x y : Nat} (hm : mayB a b n = true) (hx : x < a) (hy : y < b) : inB a b n x y = true := by
  simp [inB, hm, hx, hy]

set_option maxRecDepth 100000 in
set_option maxHeartbeats 2000000 in
theorem clears_prog (a b : Nat) (A : Option Addr) (n cap N : Nat) (c : Nat → Nat) (hN : (a : Int) * (b : Int) = (N : Int)) (hm : mayB a b n = true) (ha : In64 a) (hb : In64 b) (hn : n ≤ cap) (hmax : cap ≤ maxLen) (w : World) (hP : Pix w A n c) :
    Calls Tryd.prog 32 #[.agg #[.int .i64 a, .int .i64 b, .slice A n cap]] w fun e w' => e = .returned (.bool (clearB N c)) ∧ Below w.heap.size w w' := by
  obtain ⟨s1, s2, s3, s4, s5⟩ := size_ok (may_ok hm).1
  have HM := Lib.hid hm
  have HN := Lib.hid hN
  clear hm hN s5
  have hbx0 := hp_new0 w (.cells #[.int .i64 a, .int .i64 b, .slice A n cap] 24)
  have hB0 : Below w.heap.size w (w.alloc (.cells #[.int .i64 a, .int .i64 b, .slice A n cap] 24)) := (Below.refl _ _).alloc (Nat.le_refl _) _
  have hS0 : (w.alloc (.cells #[.int .i64 a, .int .i64 b, .slice A n cap] 24)).heap.size = w.heap.size + 1 := World.size_alloc _ _
  go_enter Tryd.func32, Tryd.ntmps32
  go_wp2_with fail
  generalize w.alloc (.cells #[.int .i64 a, .int .i64 b, .slice A n cap] 24) = w0 at *
  go_loopw [9] (fun v wr => ∃ y : Nat, y ≤ b ∧ v = .int .i64 y ∧ (∀ i, i < y * a → okPix c i) ∧ Below w0.heap.size w0 wr) (fun v _ => b - (intOf v).toNat)
  case atStart => exact ⟨0, by omega, rfl, fun i hi => absurd hi (by omega), Below.refl _ _⟩
  case round =>
    obtain ⟨y, hy, rfl, hag, hB⟩ := hrel
    have HAG := Lib.hid hag
    clear hag
    by_cases hyb : y < b
    · have hbx := hp_below hbx0 hB (by omega)
      have k0 := hp_cell (j := 0) hbx rfl
      go_wp2_with fail
      go_loopw [14] (fun v wr => ∃ x : Nat, x ≤ a ∧ v = .int .i64 x ∧ (∀ i, i < y * a + x → okPix c i) ∧ Below w0.heap.size w0 wr) (fun v _ => a - (intOf v).toNat)
      case atStart => exact ⟨0, by omega, rfl, HAG.out, hB⟩
      case round =>
        clear k0 hbx hB
        obtain ⟨x, hx, rfl, hag, hB⟩ := hrel
        have HAG2 := Lib.hid hag
        clear hag
        have hbx := hp_below hbx0 hB (by omega)
        have k0 := hp_cell (j := 0) hbx rfl
        have k1 := hp_cell (j := 1) hbx rfl
        have k2 := hp_cell (j := 2) hbx rfl
        by_cases hxa : x < a
        · obtain ⟨i, hi⟩ : ∃ i, i = y * a + x := ⟨_, rfl⟩
          have hiN := row_lt HN.out hxa hyb
          rw [← hi] at hiN
          have hgv : getV a b n c x y = .agg #[.int .u16 (c (4 * i) : Nat), .int .u16 (c (4 * i + 1) : Nat), .int .u16 (c (4 * i + 2) : Nat), .int .u16 (c (4 * i + 3) : Nat)] := by
            unfold getV
            rw [if_pos (inB_xy HM.out hxa hyb), ← Int.natCast_mul, ← Int.natCast_add, Int.toNat_natCast, ← hi]
            rfl
          have hib := inB_xy (n := n) HM.out hxa hyb
          have HV := Lib.hid hgv
          have HIB := Lib.hid hib
          have HI := Lib.hid hi
          have HPr := Lib.hid (hP.below (hB0.trans (hB.mono hB0.size)))
          clear hgv hib hi
          go_wp2_with fail
          refine (get_prog a b A n cap c x y ha hb hn hmax _ HPr.out).mono ?_
          rintro e w5 ⟨hB5, rfl⟩
          rw [HIB.out, HV.out]
          have hE := fun W => run_eq_zero (p4 c i) W
          have hB6 := hB.trans (hB5.mono hB.size)
          have HB6 := Lib.hid (hB6.alloc hB6.size (.cells #[.int .u16 (c (4 * i) : Nat), .int .u16 (c (4 * i + 1) : Nat), .int .u16 (c (4 * i + 2) : Nat), .int .u16 (c (4 * i + 3) : Nat)] 45))
          clear hB5 hB6 k0 k1 k2 hbx
          by_cases h3 : c (4 * i + 3) = 65535
          · have t3 : ((c (4 * i + 3) : Int) == 65535) = true := by rw [h3]; rfl
            have t4 : ((c (4 * i + 3) : Int) != 65535) = false := by rw [h3]; rfl
            have HS := Lib.hid (all_snoc (p := okPix c) HAG2.out (by rw [← HI.out]; exact okPix_iff.2 (.inl h3)))
            clear h3
            go_wp2_with fail
            go_roundw
            case rel => exact ⟨x + 1, by omega, by go_num, by rw [← Nat.add_assoc]; exact HS.out, HB6.out⟩
            case measure => simp [intOf]; omega
          · have t3 : ((c (4 * i + 3) : Int) == 65535) = false := by rw [beq_eq_false_iff_ne]; omega
            have t4 : ((c (4 * i + 3) : Int) != 65535) = true := by rw [bne_iff_ne]; omega
            by_cases hz : p4 c i = (0, 0, 0, 0)
            · rw [show decide (p4 c i = (0, 0, 0, 0)) = true from by simp [hz]] at hE
              have hz2 := hz
              simp only [p4, Prod.mk.injEq] at hz2
              simp only [p4] at hE
              have HS := Lib.hid (all_snoc (p := okPix c) HAG2.out (by rw [← HI.out]; exact okPix_iff.2 (.inr hz2)))
              clear h3 hz hz2
              go_wp2_with fail
              go_roundw
              case rel => exact ⟨x + 1, by omega, by go_num, by rw [← Nat.add_assoc]; exact HS.out, HB6.out⟩
              case measure => simp [intOf]; omega
            · rw [show decide (p4 c i = (0, 0, 0, 0)) = false from by simp [hz]] at hE
              simp only [p4] at hE
              have HF := Lib.hid (clear_f hiN (fun h => by
                rcases okPix_iff.1 h with h | h
                · exact h3 h
                · exact hz (by simp only [p4, Prod.mk.injEq]; exact h)))
              clear h3 hz
              go_wp2_with fail
              go_ret
              exact ⟨ret_b HF.out.symm, hB0.trans (HB6.out.mono hB0.size)⟩
        · obtain rfl : x = a := by omega
          go_wp2_with fail
          go_roundw
          case rel => exact ⟨y + 1, by omega, by go_num, by rw [Nat.add_mul, Nat.one_mul]; exact HAG2.out, hB⟩
          case measure => simp [intOf]; omega
    · obtain rfl : y = b := by omega
      have hF : clearB N c = true := clear_iff.2 (fun i hi => HAG.out i (by
        have h2 : a * y = N := by rw [← Int.natCast_inj, Int.natCast_mul]; exact HN.out
        rw [Nat.mul_comm, h2]; exact hi))
      have HF := Lib.hid hF
      clear hF
      go_wp2_with fail
      go_ret
      exact ⟨ret_b HF.out.symm, hB0.trans (hB.mono hB0.size)⟩
end Go.Proofs.YthgafdbdmemkhaaDoor

namespace Go.Proofs.YthgafdbdmemkhaaDoor
set_option maxRecDepth 100000
set_option linter.unusedVariables false
open Go.ChangeShapes Go.WideShapes Go.ChangeAt Go.RowKit

/-- Whether a format can hold a picture. -/
def fitsB (a b : Int) (n : Nat) (c : Nat → Nat) (f : Int) : Bool :=
  mayB a b n && (decide (f = 1) || (decide (f = 3) && bytesB n c) || (decide (f = 2) && (colB c (n / 4) 256 && (bytesB n c && clearB (n / 4) c))))
theorem fits_may {a b : Int} {n : Nat} {c : Nat → Nat} {f : Int} (h : fitsB a b n c f = true) : mayB a b n = true := by
  unfold fitsB at h
  cases hm : mayB a b n
  · rw [hm] at h; simp at h
  · rfl
theorem may_nat {a b : Int} {n : Nat} (h : mayB a b n = true) : ∃ a' b' N : Nat, a = (a' : Int) ∧ b = (b' : Int) ∧ n = 4 * N ∧ 1 ≤ N ∧ N ≤ 16384 ∧ (a' : Int) * (b' : Int) = (N : Int) := by
  obtain ⟨N, h1, h2, h3, h4⟩ := may_four h
  obtain ⟨s1, s2, s3, s4, s5⟩ := size_ok (may_ok h).1
  obtain ⟨a', rfl⟩ := Int.eq_ofNat_of_zero_le (show 0 ≤ a by omega)
  obtain ⟨b', rfl⟩ := Int.eq_ofNat_of_zero_le (show 0 ≤ b by omega)
  exact ⟨a', b', N, rfl, rfl, h1, h2, h3, h4⟩

set_option maxRecDepth 100000 in
set_option maxHeartbeats 2000000 in
theorem fits_prog (a b : Int) (A : Option Addr) (n cap : Nat) (c : Nat → Nat) (f : Int) (hc : ∀ i, c i < 65536) (ha : In64 a) (hb : In64 b) (hf : In64 f) (hn : n ≤ cap) (hmax : cap ≤ maxLen) (w : World) (hP : Pix w A n c) :
    Calls Tryd.prog 14 #[.agg #[.int .i64 a, .int .i64 b, .slice A n cap], .int .i64 f] w fun e w' => e = .returned (.bool (fitsB a b n c f)) ∧ Below w.heap.size w w' := by
  have hbx0 := hp_new0 w (.cells #[.int .i64 a, .int .i64 b, .slice A n cap] 24)
  have hB0 : Below w.heap.size w (w.alloc (.cells #[.int .i64 a, .int .i64 b, .slice A n cap] 24)) := (Below.refl _ _).alloc (Nat.le_refl _) _
  have hS0 : (w.alloc (.cells #[.int .i64 a, .int .i64 b, .slice A n cap] 24)).heap.size = w.heap.size + 1 := World.size_alloc _ _
  cases hm : mayB a b n with
  | false =>
    have HF := Lib.hid (show fitsB a b n c f = false by simp [fitsB, hm])
    have HM := Lib.hid hm
    clear hm
    go_enter Tryd.func14, Tryd.ntmps14
    go_wp2_with fail
    refine (may_prog a b A n cap ha hb hn hmax _).mono ?_
    rintro e w2 ⟨rfl, hB⟩
    rw [HM.out]
    have HB := Lib.hid (hB0.trans (hB.mono hB0.size))
    clear hB hB0 hbx0
    go_wp2
    go_ret
    exact ⟨ret_b HF.out.symm, HB.out⟩
  | true =>
    have HM := Lib.hid hm
    clear hm
    go_enter Tryd.func14, Tryd.ntmps14
    go_wp2_with fail
    refine (may_prog a b A n cap ha hb hn hmax _).mono ?_
    rintro e w2 ⟨rfl, hB⟩
    rw [HM.out]
    have hbx := hp_below hbx0 hB (by omega)
    have hB2 := hB0.trans (hB.mono hB0.size)
    have k0 := hp_cell (j := 0) hbx rfl
    have k1 := hp_cell (j := 1) hbx rfl
    have k2 := hp_cell (j := 2) hbx rfl
    have hs2 : w.heap.size < w2.heap.size := (Array.getElem?_eq_some_iff.1 hbx).1
    clear hB hbx0 hS0
    have hfc : f = 1 ∨ f = 3 ∨ f = 2 ∨ (f ≠ 1 ∧ f ≠ 2 ∧ f ≠ 3) := by omega
    rcases hfc with rfl | rfl | rfl | ⟨f1, f2, f3⟩
    · have HF := Lib.hid (show fitsB a b n c 1 = true by simp [fitsB, HM.out])
      go_wp2_with fail
      go_ret
      exact ⟨ret_b HF.out.symm, hB2⟩
    · have HF := Lib.hid (show fitsB a b n c 3 = bytesB n c by simp [fitsB, HM.out])
      have HPw := Lib.hid (hP.below hB2)
      have HC := Lib.hid hc
      have HB2 := Lib.hid hB2
      clear hc hB2
      go_wp2_with fail
      refine (bytes_prog a b A n cap c HC.out hn hmax _ HPw.out).mono ?_
      rintro e w3 ⟨rfl, hB⟩
      have HB3 := Lib.hid (HB2.out.trans (hB.mono HB2.out.size))
      clear hB
      go_wp2_with fail
      go_ret
      exact ⟨ret_b HF.out.symm, HB3.out⟩
    · obtain ⟨bn, hbn⟩ : ∃ x, bytesB n c = x := ⟨_, rfl⟩
      obtain ⟨cn, hcn⟩ : ∃ x, clearB (n / 4) c = x := ⟨_, rfl⟩
      obtain ⟨un, hun⟩ : ∃ x, colB c (n / 4) 256 = x := ⟨_, rfl⟩
      have HF := Lib.hid (show fitsB a b n c 2 = (un && (bn && cn)) by simp [fitsB, HM.out, hbn, hcn, hun])
      have HBN := Lib.hid hbn
      have HCN := Lib.hid hcn
      have hcv : colV a b n c 256 = .tuple #[.int .i64 (colN c (n / 4) 256), .bool un] := by unfold colV; rw [if_pos HM.out, hun]
      have HV := Lib.hid hcv
      have HPw := Lib.hid (hP.below hB2)
      have HC := Lib.hid hc
      have HB2 := Lib.hid hB2
      clear hc hB2 hcv hbn hcn hun
      go_wp2_with fail
      refine (col_any a b A n cap c HC.out 256 ha hb hn hmax _ HPw.out).mono ?_
      rintro e w3 ⟨rfl, hB⟩
      rw [HV.out]
      have hbx3 := hp_below hbx hB hs2
      have HPw3 := Lib.hid (HPw.out.below hB)
      have HB3 := Lib.hid (HB2.out.trans (hB.mono HB2.out.size))
      have hs3 : w.heap.size < w3.heap.size := Nat.lt_of_lt_of_le hs2 hB.size
      clear hB k0 k1 k2 hbx
      have k0 := hp_cell (j := 0) hbx3 rfl
      have k1 := hp_cell (j := 1) hbx3 rfl
      have k2 := hp_cell (j := 2) hbx3 rfl
      cases un with
      | false =>
        go_wp2_with fail
        go_ret
        exact ⟨ret_b HF.out.symm, HB3.out⟩
      | true =>
        go_wp2_with fail
        refine (bytes_prog a b A n cap c HC.out hn hmax _ HPw3.out).mono ?_
        rintro e w4 ⟨rfl, hB⟩
        rw [HBN.out]
        have hbx4 := hp_below hbx3 hB hs3
        have HPw4 := Lib.hid (HPw3.out.below hB)
        have HB4 := Lib.hid (HB3.out.trans (hB.mono HB3.out.size))
        clear hB k0 k1 k2 hbx3
        have k0 := hp_cell (j := 0) hbx4 rfl
        have k1 := hp_cell (j := 1) hbx4 rfl
        have k2 := hp_cell (j := 2) hbx4 rfl
        cases bn with
        | false =>
          go_wp2_with fail
          go_ret
          exact ⟨ret_b HF.out.symm, HB4.out⟩
        | true =>
          obtain ⟨a', b', N', rfl, rfl, hn', _, _, hab⟩ := may_nat HM.out
          have hNN : n / 4 = N' := by omega
          rw [hNN] at HCN
          have HAB := Lib.hid hab
          clear hab hn' hNN
          go_wp2_with fail
          refine (clears_prog a' b' A n cap N' c HAB.out HM.out ha hb hn hmax _ HPw4.out).mono ?_
          rintro e w5 ⟨rfl, hB⟩
          rw [HCN.out]
          have HB5 := Lib.hid (HB4.out.trans (hB.mono HB4.out.size))
          clear hB
          go_wp2_with fail
          go_ret
          exact ⟨ret_b HF.out.symm, HB5.out⟩
    · have HF := Lib.hid (show fitsB a b n c f = false by simp [fitsB, f1, f2, f3])
      have t1 : (f == 1) = false := by rw [beq_eq_false_iff_ne]; exact f1
      have t2 : (f == 2) = false := by rw [beq_eq_false_iff_ne]; exact f2
      have t3 : (f == 3) = false := by rw [beq_eq_false_iff_ne]; exact f3
      go_wp2_with fail
      go_ret
      exact ⟨ret_b HF.out.symm, hB2⟩

theorem fits_else {a b : Int} {n : Nat} {c : Nat → Nat} {f : Int} (h : ¬f = 1 ∧ ¬f = 2 ∧ ¬f = 3) : fitsB a b n c f = false := by
  obtain ⟨h1, h2, h3⟩ := h
  simp [fitsB, h1, h2, h3]
theorem colB_iff {c : Nat → Nat} (hc : ∀ i, c i < 65536) {N : Nat} : colB c N 256 = decide (((U c N).length : Int) ≤ 256) := colB_U hc N 256
set_option maxRecDepth 100000 in
set_option maxHeartbeats 4000000 in
theorem fits_ref (a b : Int) (A : Option Addr) (n cap : Nat) (c : Nat → Nat) (f : Int) (hc : ∀ i, c i < 65536) (ha : In64 a) (hb : In64 b) (hf : In64 f) (hn : n ≤ cap) (hmax : cap ≤ maxLen) (w : World) (hP : Pix w A n c) :
    Calls Tryd.prog 7 #[.agg #[.int .i64 a, .int .i64 b, .slice A n cap], .int .i64 f] w fun e w' => e = .returned (.bool (fitsB a b n c f)) ∧ Below w.heap.size w w' := by
  have hbx0 := hp_new0 w (.cells #[.int .i64 a, .int .i64 b, .slice A n cap] 24)
  have hB0 : Below w.heap.size w (w.alloc (.cells #[.int .i64 a, .int .i64 b, .slice A n cap] 24)) := (Below.refl _ _).alloc (Nat.le_refl _) _
  have hS0 : (w.alloc (.cells #[.int .i64 a, .int .i64 b, .slice A n cap] 24)).heap.size = w.heap.size + 1 := World.size_alloc _ _
  cases hm : mayB a b n with
  | false =>
    have HF := Lib.hid (show fitsB a b n c f = false by simp [fitsB, hm])
    have HM := Lib.hid hm
    clear hm
    go_enter Tryd.func7, Tryd.ntmps7
    go_wp2_with fail
    refine (may_ref a b A n cap ha hb hn hmax _).mono ?_
    rintro e w2 ⟨rfl, hB⟩
    rw [HM.out]
    have HB := Lib.hid (hB0.trans (hB.mono hB0.size))
    clear hB hB0 hbx0
    go_wp2
    go_ret
    exact ⟨ret_b HF.out.symm, HB.out⟩
  | true =>
    have hfc : f = 1 ∨ f = 3 ∨ f = 2 ∨ f < 1 ∨ 3 < f := by omega
    obtain ⟨N, hN, hN1, hN2, hab⟩ := may_four hm
    have HM := Lib.hid hm
    have HN := Lib.hid hN
    have HC := Lib.hid hc
    have hmx := hmax
    unfold maxLen at hmx
    have hn65 : n ≤ 65536 := by omega
    clear hm hc hN hab
    go_enter Tryd.func7, Tryd.ntmps7
    go_wp2_with fail
    refine (may_ref a b A n cap ha hb hn hmax _).mono ?_
    rintro e w2 ⟨rfl, hB⟩
    rw [HM.out]
    have hbx := hp_below hbx0 hB (by omega)
    have hB2 := hB0.trans (hB.mono hB0.size)
    have hPw := hP.below hB2
    have hs2 : w.heap.size < w2.heap.size := (Array.getElem?_eq_some_iff.1 hbx).1
    clear hB hbx0 hS0 hB0 hP
    rcases hfc with rfl | rfl | rfl | hlo | hhi
    · have HF := Lib.hid (show fitsB a b n c 1 = true by simp [fitsB, HM.out])
      have HB2 := Lib.hid hB2
      clear hB2
      go_wp2_with fail
      go_loopw [5] (fun v wr => v = .int .i64 0 ∧ wr = w2) (fun _ _ => 0)
      case atStart => exact ⟨rfl, rfl⟩
      case round =>
        obtain ⟨rfl, rfl⟩ := hrel
        have k2 := hp_cell (j := 2) hbx rfl
        by_cases h0 : 0 < n
        · have t0 : decide (0 < n) = true := by simpa using h0
          have t1 : decide ((0 : Int) < (n : Int)) = true := by simp; omega
          go_wp2_with fail
          go_ret
          exact ⟨ret_b HF.out.symm, HB2.out⟩
        · exfalso; have := HN.out; omega
    · have HFt := Lib.hid (show fitsB a b n c 3 = bytesB n c by simp [fitsB, HM.out])
      go_wp2_with fail
      go_loopw [5] (fun v wr => ∃ k : Nat, k ≤ n ∧ v = .int .i64 k ∧ (∀ j, j < k → c j % 257 = 0) ∧ wr = w2) (fun v _ => n - (intOf v).toNat)
      case atStart => exact ⟨0, by omega, rfl, fun j hj => absurd hj (by omega), rfl⟩
      case round =>
        obtain ⟨k, hk, rfl, hag, rfl⟩ := hrel
        have HAG := Lib.hid hag
        clear hag
        have k2 := hp_cell (j := 2) hbx rfl
        by_cases hlt : k < n
        · obtain ⟨bk, off, rfl, hbl, hcl⟩ := hPw (by omega)
          have c0 := hcl k hlt
          have hck := HC.out k
          clear hcl
          have tl : decide (k < n) = true := by simpa using hlt
          by_cases he : c k % 257 = 0
          · have HS := Lib.hid (all_snoc (p := fun j => c j % 257 = 0) HAG.out he)
            have t3 : ((c k : Int) % 257 == 0) = true := by rw [beq_iff_eq]; omega
            have t4 : ((c k : Int) % 257 != 0) = false := by rw [bne_eq_false_iff_eq]; omega
            clear he
            go_wp2_with fail
            go_roundw
            case rel => exact ⟨k + 1, by omega, by go_num, HS.out, trivial⟩
            case measure => simp [intOf]; omega
          · have HF := Lib.hid (bytes_f hlt he)
            have t3 : ((c k : Int) % 257 == 0) = false := by rw [beq_eq_false_iff_ne]; omega
            have t4 : ((c k : Int) % 257 != 0) = true := by rw [bne_iff_ne]; omega
            clear he
            go_wp2_with fail
            go_ret
            exact ⟨ret_b (by rw [HFt.out, HF.out]), hB2⟩
        · obtain rfl : k = n := by omega
          have HF := Lib.hid (bytes_t HAG.out)
          have tl : decide (k < k) = false := by simp
          go_wp2_with fail
          go_ret
          exact ⟨ret_b (by rw [HFt.out, HF.out]), hB2⟩
    · have HFt := Lib.hid (show fitsB a b n c 2 = (colB c (n / 4) 256 && (bytesB n c && clearB (n / 4) c)) by simp [fitsB, HM.out])
      go_wp2_with fail
      go_loopw [5] (fun v wr => ∃ k : Nat, k ≤ n ∧ v = .int .i64 k ∧ (∀ j, j < k → c j % 257 = 0) ∧ Below w2.heap.size w2 wr) (fun v _ => n - (intOf v).toNat)
      case atStart => exact ⟨0, by omega, rfl, fun j hj => absurd hj (by omega), Below.refl _ _⟩
      case round =>
        obtain ⟨k, hk, rfl, hag, hB3⟩ := hrel
        have HAG := Lib.hid hag
        clear hag
        have hbx3 := hp_below hbx hB3 hs2
        have k2 := hp_cell (j := 2) hbx3 rfl
        by_cases hlt : k < n
        · obtain ⟨bk, off, rfl, hbl, hcl⟩ := hPw.below hB3 (by omega)
          have c0 := hcl k hlt
          have hck := HC.out k
          clear hcl
          have tl : decide (k < n) = true := by simpa using hlt
          by_cases he : c k % 257 = 0
          · have HS := Lib.hid (all_snoc (p := fun j => c j % 257 = 0) HAG.out he)
            have t3 : ((c k : Int) % 257 == 0) = true := by rw [beq_iff_eq]; omega
            have t4 : ((c k : Int) % 257 != 0) = false := by rw [bne_eq_false_iff_eq]; omega
            clear he
            go_wp2_with fail
            go_roundw
            case rel => exact ⟨k + 1, by omega, by go_num, HS.out, hB3⟩
            case measure => simp [intOf]; omega
          · have HF := Lib.hid (bytes_f hlt he)
            have t3 : ((c k : Int) % 257 == 0) = false := by rw [beq_eq_false_iff_ne]; omega
            have t4 : ((c k : Int) % 257 != 0) = true := by rw [bne_iff_ne]; omega
            clear he
            go_wp2_with fail
            go_ret
            exact ⟨ret_b (by rw [HFt.out, HF.out]; simp), hB2.trans (hB3.mono hB2.size)⟩
        · obtain rfl : k = n := by omega
          have HF := Lib.hid (bytes_t HAG.out)
          have tl : decide (k < k) = false := by simp
          have hk4 : k / 4 = N := by have := HN.out; omega
          have HFt2 := Lib.hid (show fitsB a b k c 2 = (colB c N 256 && clearB N c) by rw [HFt.out, HF.out, hk4]; simp)
          have hB2' := hB2.trans (hB3.mono hB2.size)
          have hP3 := hPw.below hB3
          have hs3 : w.heap.size < wr.heap.size := Nat.lt_of_lt_of_le hs2 hB3.size
          have hN4 : 4 * (N : Int) = (k : Int) := by have := HN.out; omega
          have hN4' : 4 * N ≤ k ∧ k ≤ 4 * N := by have := HN.out; omega
          have HN4 := Lib.hid hN4
          clear HAG HF hk4 HFt hbx hB2 hPw hB3 hN4
          go_wp2_with fail
          rename World => wo
          clear k2
          go_loopw [6] (fun v wr => ∃ i : Nat, i ≤ N ∧ v = .int .i64 (4 * (i : Int)) ∧ (∀ j, j < i → okPix c j) ∧ Below wo.heap.size wo wr) (fun v _ => k - (intOf v).toNat)
          case atStart => exact ⟨0, by omega, rfl, fun j hj => absurd hj (by omega), Below.refl _ _⟩
          case round =>
            obtain ⟨i, hi, rfl, hag, hB4⟩ := hrel
            have HAG := Lib.hid hag
            clear hag
            have hbx4 := hp_below hbx3 hB4 hs3
            have k2 := hp_cell (j := 2) hbx4 rfl
            by_cases hlt : i < N
            · obtain ⟨bk, off, rfl, hbl, hcl⟩ := hP3.below hB4 (by omega)
              have c0 := hcl (4 * i) (by omega)
              have c1 := hcl (4 * i + 1) (by omega)
              have c2 := hcl (4 * i + 2) (by omega)
              have c3 := hcl (4 * i + 3) (by omega)
              have g0 := HC.out (4 * i)
              have g1 := HC.out (4 * i + 1)
              have g2 := HC.out (4 * i + 2)
              have g3 := HC.out (4 * i + 3)
              clear hcl
              have tl : decide (4 * (i : Int) < (k : Int)) = true := by simp; omega
              by_cases he : okPix c i
              · have HS := Lib.hid (all_snoc HAG.out he)
                rcases okPix_iff.1 he with h3 | ⟨h0, h1, h2, h3⟩
                · have t3 : ((c (4 * i + 3) : Int) == 65535) = true := by rw [beq_iff_eq]; omega
                  have t4 : ((c (4 * i + 3) : Int) != 65535) = false := by rw [bne_eq_false_iff_eq]; omega
                  clear he h3
                  go_wp2_with fail
                  go_roundw
                  case rel => exact ⟨i + 1, by omega, by go_num, HS.out, hB4⟩
                  case measure => simp [intOf]; omega
                · rw [h0] at c0
                  rw [h1] at c1
                  rw [h2] at c2
                  rw [h3] at c3
                  clear he h0 h1 h2 h3
                  go_wp2_with fail
                  go_roundw
                  case rel => exact ⟨i + 1, by omega, by go_num, HS.out, hB4⟩
                  case measure => simp [intOf]; omega
              · have HF := Lib.hid (clear_f hlt he)
                have hne : ¬c (4 * i + 3) = 65535 := fun h => he (okPix_iff.2 (.inl h))
                have t3 : ((c (4 * i + 3) : Int) == 65535) = false := by rw [beq_eq_false_iff_ne]; omega
                have t4 : ((c (4 * i + 3) : Int) != 65535) = true := by rw [bne_iff_ne]; omega
                have hnz : ¬c (4 * i + 3) = 0 ∨ (c (4 * i + 3) = 0 ∧ ¬c (4 * i) = 0) ∨ (c (4 * i + 3) = 0 ∧ c (4 * i) = 0 ∧ ¬c (4 * i + 1) = 0) ∨ (c (4 * i + 3) = 0 ∧ c (4 * i) = 0 ∧ c (4 * i + 1) = 0 ∧ ¬c (4 * i + 2) = 0) := by
                  have h9 : ¬(c (4 * i) = 0 ∧ c (4 * i + 1) = 0 ∧ c (4 * i + 2) = 0 ∧ c (4 * i + 3) = 0) := fun h => he (okPix_iff.2 (.inr h))
                  omega
                clear he hne
                rcases hnz with h | ⟨h3, h⟩ | ⟨h3, h0, h⟩ | ⟨h3, h0, h1, h⟩
                · have t5 : ((c (4 * i + 3) : Int) == 0) = false := by rw [beq_eq_false_iff_ne]; omega
                  have t6 : ((c (4 * i + 3) : Int) != 0) = true := by rw [bne_iff_ne]; omega
                  clear h
                  go_wp2_with fail
                  go_ret
                  exact ⟨ret_b (by rw [HFt2.out, HF.out]; simp), hB2'.trans (hB4.mono hB2'.size)⟩
                · have t5 : ((c (4 * i) : Int) == 0) = false := by rw [beq_eq_false_iff_ne]; omega
                  have t6 : ((c (4 * i) : Int) != 0) = true := by rw [bne_iff_ne]; omega
                  rw [h3] at c3
                  clear h h3 t3 t4
                  go_wp2_with fail
                  go_ret
                  exact ⟨ret_b (by rw [HFt2.out, HF.out]; simp), hB2'.trans (hB4.mono hB2'.size)⟩
                · have t5 : ((c (4 * i + 1) : Int) == 0) = false := by rw [beq_eq_false_iff_ne]; omega
                  have t6 : ((c (4 * i + 1) : Int) != 0) = true := by rw [bne_iff_ne]; omega
                  rw [h3] at c3
                  rw [h0] at c0
                  clear h h3 t3 t4 h0
                  go_wp2_with fail
                  go_ret
                  exact ⟨ret_b (by rw [HFt2.out, HF.out]; simp), hB2'.trans (hB4.mono hB2'.size)⟩
                · have t5 : ((c (4 * i + 2) : Int) == 0) = false := by rw [beq_eq_false_iff_ne]; omega
                  have t6 : ((c (4 * i + 2) : Int) != 0) = true := by rw [bne_iff_ne]; omega
                  rw [h3] at c3
                  rw [h0] at c0
                  rw [h1] at c1
                  clear h h3 t3 t4 h0 h1
                  go_wp2_with fail
                  go_ret
                  exact ⟨ret_b (by rw [HFt2.out, HF.out]; simp), hB2'.trans (hB4.mono hB2'.size)⟩
            · obtain rfl : i = N := by omega
              have HFc := Lib.hid (show clearB i c = true from clear_iff.2 HAG.out)
              have tl : decide (4 * (i : Int) < (k : Int)) = false := by simp; omega
              have hP4 := hP3.below hB4
              obtain ⟨bk, off, rfl, hbl, hcl⟩ := hP4 (by omega)
              have hs4 : w.heap.size < wr.heap.size := Nat.lt_of_lt_of_le hs3 hB4.size
              have HCL := Lib.hid (fun j (hj : j < 4 * i) => hcl j (by omega))
              have HMk := HM.out
              rw [HN.out] at HMk
              have HM2 := Lib.hid HMk
              have k0 := hp_cell (j := 0) hbx4 rfl
              have k1 := hp_cell (j := 1) hbx4 rfl
              have HB4 := Lib.hid (hB2'.trans (hB4.mono hB2'.size))
              have hcu := colB_iff HC.out (N := i)
              have HCU := Lib.hid hcu
              have hki : k = 4 * i := by omega
              have HKI := Lib.hid hki
              clear HMk hcl hB4 hB2' hP3 hP4 hcu hki
              go_wp2_with fail
              rw [HKI.out]
              refine (list_ref a b bk off cap c HC.out i 256 ha hb HM2.out hN1 hN2 (by omega) hmax _ hbl HCL.out).mono ?_
              rintro e w5 ⟨⟨hle, v, u, rfl, rv, ru⟩ | ⟨hgt, rfl⟩, hB5⟩
              · obtain ⟨_, A1, c1, rfl, _, _, _⟩ := Sl.of_own rv
                obtain ⟨_, A2, c2, rfl, _, _, _⟩ := Sl.of_own ru
                have HG := Lib.hid (show fitsB a b k c 2 = true by rw [HFt2.out, HCU.out, HFc.out]; simpa using hle)
                have HB5 := Lib.hid (HB4.out.trans (hB5.mono HB4.out.size))
                clear rv ru hB5 hle
                go_wp2
                go_ret
                exact ⟨ret_b HG.out.symm, HB5.out⟩
              · have HG := Lib.hid (show fitsB a b k c 2 = false by rw [HFt2.out, HCU.out, HFc.out]; simp; omega)
                have HB5 := Lib.hid (HB4.out.trans (hB5.mono HB4.out.size))
                clear hB5 hgt
                go_wp2
                go_ret
                exact ⟨ret_b HG.out.symm, HB5.out⟩
    · have HF := Lib.hid (show fitsB a b n c f = false from fits_else (by omega))
      have t1 : decide (f < 1) = true := by simpa using hlo
      go_wp2_with fail
      go_ret
      exact ⟨ret_b HF.out.symm, hB2⟩
    · have HF := Lib.hid (show fitsB a b n c f = false from fits_else (by omega))
      have t1 : decide (f < 1) = false := by simp; omega
      have t2 : decide (3 < f) = true := by simpa using hhi
      go_wp2_with fail
      go_ret
      exact ⟨ret_b HF.out.symm, hB2⟩
end Go.Proofs.YthgafdbdmemkhaaDoor

namespace Go.Proofs.YthgafdbdmemkhaaDoor
set_option maxRecDepth 100000
set_option linter.unusedVariables false
open Go.ChangeShapes Go.WideShapes Go.ChangeAt Go.RowKit

/-- append to a row of one's own, whatever slice is appended. -/
theorem run_app {P : Program} {w : World} (base : Nat) (t ty e : TypeId) (i : TypeInfo) (z : Value) (size bytes : Nat) (ht : P.underlying t = some (.slice e)) (hi : P.info? e = some i) (hz : i.zero = some z)
    (hsize : i.size = size) (hby : i.bytes = bytes) (hzs : z.cells.size = size) (hsz : 0 < size)
    (v : Value) (n : Nat) (xs : List Value) (hown : w.ownsRow base e size v n xs)
    (A : Option Addr) (m c : Nat) (news : List Value) (hA : A = none → c = 0) (hl : news.length = m * size) (hnews : 0 < m → ∃ b off, A = some ⟨b, off, none⟩ ∧ ∀ j u, news[j]? = some u → w.cell? ⟨b, off + j, none⟩ = some u) (h1 : ∀ u ∈ news, u.oneCell' = true)
    (h63 : n + m ≤ maxLen) (hbytes : (n + m) * bytes ≤ 140737488355328) (hbase : base ≤ w.heap.size) :
    ∃ v' w', (Builtin.append_ #[t, t] ty #[v, .slice A m c]).run P w = .ok v' w' ∧ w'.ownsRow base e size v' (n + m) (xs ++ news) ∧ w.grownBy w' v.ownBlock ∧ (v'.ownBlock = v.ownBlock ∨ v'.ownBlock = some w.heap.size) := by
  cases A with
  | none =>
    have hm : m = 0 := by
      apply Nat.eq_zero_of_not_pos
      intro h
      obtain ⟨b, off, he, _⟩ := hnews h
      cases he
    have hc := hA rfl
    subst hm hc
    have hn : news = [] := List.eq_nil_of_length_eq_zero (by omega)
    subst hn
    exact ⟨v, w, run_append_owned_none w base t ty e i size ht hi v n xs hown, by simpa using hown, ⟨rfl, rfl, rfl, Nat.le_refl _, fun _ _ _ => rfl⟩, .inl rfl⟩
  | some ad =>
    have hcell : ∀ j u, news[j]? = some u → w.cell? (ad.add j) = some u := by
      intro j u hj
      have hm : 0 < m := by
        apply Nat.pos_of_ne_zero
        intro h
        rw [h, Nat.zero_mul] at hl
        rw [List.eq_nil_of_length_eq_zero hl] at hj
        simp at hj
      obtain ⟨b, off, he, hc⟩ := hnews hm
      cases he
      rw [Addr.add_lit]
      exact hc j u hj
    obtain ⟨v', w', g1, g2, g3, _, g5⟩ := run_append_own_at w base t ty e i z size bytes ht hi hz hsize hby hzs hsz v n xs hown ad m c news hl hcell h1 h63 hbytes hbase
    exact ⟨v', w', g1, g2, g3, g5⟩

theorem wpList_app {P : Program} {w : World} {ops : Array Oper} {rest : List Oper} {o : Oper} {a : Act} {Q : Exit → Act → World → Prop} (hgd : o.guard = none) (s x : Operand) (t : TypeId)
    (ho : o.op = .call { callee := .builtin .append, args := #[s, x], argTypes := #[t, t] }) (v sv v' : Value) (w' : World) (hs : a.eval s = v) (hx : a.eval x = sv)
    (hrun : (Builtin.append_ #[t, t] o.type #[v, sv]).run P w = .ok v' w') (h : wpList P ops Q rest (a.put o.dst v') w') : wpList P ops Q (o :: rest) a w := by
  refine wpList_plain hgd fun K hK => ?_
  unfold Oper.wp
  simp [execOp, ho, resolve, invoke, builtin, hs, hx, hrun, Result.andThen]
  exact hK _ _ h
theorem step_app {P : Program} {w : World} {ops : Array Oper} {o : Oper} {a : Act} {K : Act → World → Prop} {Q : Exit → Act → World → Prop} {E : Prop} (hgd : o.guard = none) (s x : Operand) (t : TypeId)
    (ho : o.op = .call { callee := .builtin .append, args := #[s, x], argTypes := #[t, t] }) (v sv v' : Value) (w' : World) (hs : a.eval s = v) (hx : a.eval x = sv)
    (hrun : (Builtin.append_ #[t, t] o.type #[v, sv]).run P w = .ok v' w') (h : K (a.put o.dst v') w') : if Region.wanted o (yielded ops a.tmps) = true then Oper.wp P o a w K Q else E := by
  have hw : Region.wanted o (yielded ops a.tmps) = true := by simp [Region.wanted, hgd]
  rw [if_pos hw]
  unfold Oper.wp
  simp [execOp, ho, resolve, invoke, builtin, hs, hx, hrun, Result.andThen]
  exact h
/-- A picture's samples in a row of one's own. -/
def Own (B : Nat) (w : World) (A : Option Addr) (n : Nat) (c : Nat → Nat) : Prop :=
  0 < n → ∃ g cur, A = some ⟨g, 0, none⟩ ∧ B ≤ g ∧ w.heap[g]? = some (.cells cur 39 (0, 0)) ∧ n ≤ cur.size ∧ ∀ j, j < n → cur[j]? = some (.int .u16 (c j : Nat))
theorem Own.pix {B : Nat} {w : World} {A : Option Addr} {n : Nat} {c : Nat → Nat} (h : Own B w A n c) : Pix w A n c := fun hn => by
  obtain ⟨g, cur, rfl, hB, hg, hs, hc⟩ := h hn
  exact ⟨g, 0, rfl, (Array.getElem?_eq_some_iff.1 hg).1, fun j hj => by rw [Nat.zero_add]; exact hp_cell hg (hc j hj)⟩
theorem Own.below {B : Nat} {w w' : World} {A : Option Addr} {n : Nat} {c : Nat → Nat} (h : Own B w A n c) (hb : Below w.heap.size w w') : Own B w' A n c := fun hn => by
  obtain ⟨g, cur, rfl, hB, hg, hs, hc⟩ := h hn
  exact ⟨g, cur, rfl, hB, hp_below hg hb (Array.getElem?_eq_some_iff.1 hg).1, hs, hc⟩
theorem Own.le {B B' : Nat} {w : World} {A : Option Addr} {n : Nat} {c : Nat → Nat} (h : Own B w A n c) (hb : B' ≤ B) : Own B' w A n c := fun hn => by
  obtain ⟨g, cur, rfl, hB, hg, hs, hc⟩ := h hn
  exact ⟨g, cur, rfl, Nat.le_trans hb hB, hg, hs, hc⟩
/-- Another block is written. -/
theorem Own.grown {B : Nat} {w w' : World} {A : Option Addr} {n : Nat} {c : Nat → Nat} {g : Nat} (h : Own B w A n c) (hg : w.grownBy w' (some g)) (hne : ∀ k, A = some ⟨k, 0, none⟩ → k ≠ g) : Own B w' A n c := fun hn => by
  obtain ⟨k, cur, rfl, hB, hk, hs, hc⟩ := h hn
  exact ⟨k, cur, rfl, hB, (hg.block k (Array.getElem?_eq_some_iff.1 hk).1 (fun e => by injection e with e; exact hne k rfl e)).trans hk, hs, hc⟩
theorem Own.set {B : Nat} {w : World} {A : Option Addr} {n : Nat} {c : Nat → Nat} {g : Nat} (h : Own B w A n c) (hg : g < B) (i : Nat) (v : Value) : Own B (w.setCell ⟨g, i, none⟩ v) A n c := fun hn => by
  obtain ⟨k, cur, rfl, hB, hk, hs, hc⟩ := h hn
  exact ⟨k, cur, rfl, hB, ((grown_set w g i v).block k (Array.getElem?_eq_some_iff.1 hk).1 (fun e => by injection e; omega)).trans hk, hs, hc⟩
theorem Own.lt {B : Nat} {w : World} {A : Option Addr} {n : Nat} {c : Nat → Nat} (h : Own B w A n c) : ∀ k, 0 < n → A = some ⟨k, 0, none⟩ → B ≤ k ∧ k < w.heap.size := fun k hn he => by
  obtain ⟨g, cur, h1, hB, hg, _⟩ := h hn
  rw [he] at h1
  injection h1 with h1
  injection h1 with h1
  subst h1
  exact ⟨hB, (Array.getElem?_eq_some_iff.1 hg).1⟩
theorem Own.frame {B : Nat} {w w' : World} {A A' : Option Addr} {n m : Nat} {c : Nat → Nat} (h : Own B w A n c) (hfr : ∀ g o, w.heap[g]? = some o → (∀ k, 0 < m → A' = some ⟨k, 0, none⟩ → k ≠ g) → w'.heap[g]? = some o)
    (hne : ∀ g k, A = some ⟨g, 0, none⟩ → 0 < n → 0 < m → A' = some ⟨k, 0, none⟩ → k ≠ g) : Own B w' A n c := fun hn => by
  obtain ⟨g, cur, rfl, hB, hg, hs, hcl⟩ := h hn
  exact ⟨g, cur, rfl, hB, hfr g _ hg (fun k hm he => hne g k rfl hn hm he), hs, hcl⟩

def cells16 (n : Nat) (c : Nat → Nat) : List Value := (List.range n).map fun j => .int .u16 (c j : Nat)
theorem cells16_get (n : Nat) (c : Nat → Nat) (j : Nat) (hj : j < n) : (cells16 n c)[j]? = some (.int .u16 (c j : Nat)) := by simp [cells16, hj]
theorem cells16_one (n : Nat) (c : Nat → Nat) : ∀ u ∈ cells16 n c, u.oneCell' = true := by
  intro u hu
  obtain ⟨j, _, rfl⟩ := List.mem_map.1 hu
  rfl
theorem Own.of_row {B : Nat} {w : World} {n : Nat} {v : Value} {c : Nat → Nat} (h : w.ownsRow B 39 1 v n (cells16 n c)) : ∃ A cap, v = .slice A n cap ∧ n ≤ cap ∧ cap ≤ maxLen ∧ (A = none → cap = 0) ∧ Own B w A n c := by
  obtain ⟨_, hf⟩ := h
  rcases hf with ⟨rfl, h0⟩ | ⟨g, cap, cur, rfl, hB, hg, hnc, hcm, hcs, ht⟩
  · subst h0
    exact ⟨none, 0, rfl, Nat.le_refl _, by simp [maxLen], fun _ => rfl, fun h => absurd h (by omega)⟩
  · refine ⟨_, cap, rfl, hnc, hcm, (fun h => by cases h), fun hn => ⟨g, cur, rfl, hB, hg, by omega, fun j hj => ?_⟩⟩
    rw [← cells16_get n c j hj, ← ht]
    simp [hj]

theorem pix_news {w : World} {A : Option Addr} {n : Nat} {c : Nat → Nat} (h : Pix w A n c) : 0 < n → ∃ b off, A = some ⟨b, off, none⟩ ∧ ∀ j u, (cells16 n c)[j]? = some u → w.cell? ⟨b, off + j, none⟩ = some u := fun hn => by
  obtain ⟨bk, off, rfl, hlt, hc⟩ := h hn
  refine ⟨bk, off, rfl, fun j u hj => ?_⟩
  have hj' : j < n := by have := (List.getElem?_eq_some_iff.1 hj).1; simpa [cells16] using this
  rw [cells16_get n c j hj'] at hj
  rw [hc j hj', hj]

theorem own_empty (w : World) : (w.alloc (.cells #[] 39)).ownsRow w.heap.size 39 1 (.slice (some ⟨w.heap.size, 0, none⟩) 0 0) 0 [] :=
  ⟨rfl, .inr ⟨w.heap.size, 0, #[], rfl, Nat.le_refl _, hp_new0 w _, Nat.le_refl _, by simp [maxLen], rfl, rfl⟩⟩
/-- n samples in a new row. -/
def NewRow (B : Nat) (w : World) (n : Nat) (A : Option Addr) (cap : Nat) (c : Nat → Nat) : Prop := n ≤ cap ∧ cap ≤ maxLen ∧ (A = none → cap = 0) ∧ Own B w A n c
theorem NewRow.of_row {B : Nat} {w : World} {n : Nat} {v : Value} {c : Nat → Nat} (h : w.ownsRow B 39 1 v n (cells16 n c)) : ∃ A cap, v = .slice A n cap ∧ NewRow B w n A cap c := by
  obtain ⟨A, cap, h1, h2, h3, h4, h5⟩ := Own.of_row h
  exact ⟨A, cap, h1, h2, h3, h4, h5⟩
theorem NewRow.set {B : Nat} {w : World} {n : Nat} {A : Option Addr} {cap : Nat} {c : Nat → Nat} {g : Nat} (h : NewRow B w n A cap c) (hg : g < B) (i : Nat) (v : Value) : NewRow B (w.setCell ⟨g, i, none⟩ v) n A cap c := ⟨h.1, h.2.1, h.2.2.1, h.2.2.2.set hg i v⟩
theorem NewRow.le {B B' : Nat} {w : World} {n : Nat} {A : Option Addr} {cap : Nat} {c : Nat → Nat} (h : NewRow B w n A cap c) (hb : B' ≤ B) : NewRow B' w n A cap c := ⟨h.1, h.2.1, h.2.2.1, h.2.2.2.le hb⟩
def clonePost (n : Nat) (c : Nat → Nat) (w : World) (e : Ending) (w' : World) : Prop := ∃ A' cap', e = .returned (.slice A' n cap') ∧ NewRow w.heap.size w' n A' cap' c

theorem results_cell1 {fn : Func} {p : Tmp} {ty : TypeId} (h : fn.results = #[.cell p ty]) (tmps : Array Value) (P : Program) (w : World) :
    (results fn tmps).run P w = ((asAddr (tmps.getD p undef)).run P w).andThen fun a w₁ => (loadVar ty a).run P w₁ := by
  simp only [results, h]
  simp [Sem.run_bind, Result.andThen]
def copyPost (a b : Int) (n : Nat) (c : Nat → Nat) (w : World) (e : Ending) (w' : World) : Prop := ∃ A' cap', e = .returned (.agg #[.int .i64 a, .int .i64 b, .slice A' n cap']) ∧ NewRow w.heap.size w' n A' cap' c

set_option maxRecDepth 100000 in
set_option maxHeartbeats 1000000 in
theorem copy_ref (a b : Int) (A : Option Addr) (n cap : Nat) (c : Nat → Nat) (hn : n ≤ cap) (hmax : cap ≤ maxLen) (hz : A = none → cap = 0) (hsmall : n ≤ 1000000) (w : World) (hP : Pix w A n c) :
    Calls Tryd.prog 10 #[.agg #[.int .i64 a, .int .i64 b, .slice A n cap]] w fun e w' => copyPost a b n c w e w' ∧ Below w.heap.size w w' := by
  obtain ⟨i0, hi, hz0, hz1, hz2⟩ := info_parts info16
  have hB0 : Below w.heap.size w ((w.alloc (.cells #[.int .i64 a, .int .i64 b, .slice A n cap] 24)).alloc (.cells #[.int .i64 0, .int .i64 0, .slice none 0 0] 24)).drew := (((Below.refl _ w).alloc (Nat.le_refl _) _).alloc (by simp) _).drew
  have hP0 := hP.below hB0
  have q0 := hp_alloc (.cells #[.int .i64 0, .int .i64 0, .slice none 0 0] 24) (hp_new0 w (.cells #[.int .i64 a, .int .i64 b, .slice A n cap] 24))
  have q1 := hp_new0 (w.alloc (.cells #[.int .i64 a, .int .i64 b, .slice A n cap] 24)) (.cells #[.int .i64 0, .int .i64 0, .slice none 0 0] 24)
  rw [World.size_alloc] at q1
  obtain ⟨v', w2, hrun, hown, hgr, hat⟩ := run_app (P := Tryd.prog) (w := ((w.alloc (.cells #[.int .i64 a, .int .i64 b, .slice A n cap] 24)).alloc (.cells #[.int .i64 0, .int .i64 0, .slice none 0 0] 24)).drew) (w.heap.size + 2) 22 22 39 i0 _ 1 2 Tryd.underlying22 hi hz0 hz1 hz2 rfl (by omega) (.slice none 0 0) 0 [] (World.ownsRow_nil _ _ _ _) A n cap (cells16 n c) hz (by simp [cells16]) (pix_news hP0) (cells16_one n c) (by unfold maxLen; omega) (by omega) (by simp)
  rw [Nat.zero_add, List.nil_append] at hown
  obtain ⟨A', cap', rfl, hR⟩ := NewRow.of_row hown
  have hgr2 : Below (w.heap.size + 2) ((w.alloc (.cells #[.int .i64 a, .int .i64 b, .slice A n cap] 24)).alloc (.cells #[.int .i64 0, .int .i64 0, .slice none 0 0] 24)).drew w2 := (Below.refl _ _).grown hgr (by simp) (fun g hg => by cases hg)
  have p0 : w2.heap[w.heap.size]? = _ := (hgr2.block _ (by omega)).trans q0
  have m0 := hp_cell (j := 0) p0 rfl
  have m1 := hp_cell (j := 1) p0 rfl
  have m2 := hp_cell (j := 2) p0 rfl
  have p1 : w2.heap[w.heap.size + 1]? = _ := (hgr2.block _ (by omega)).trans q1
  have f1 : ∀ j, w2.frozen? ⟨w.heap.size + 1, j, none⟩ = false := fun j => by simp [World.frozen?, p1]
  have l0 := hp_cell (j := 0) p1 rfl
  have l1 := hp_cell (j := 1) p1 rfl
  have l2 := hp_cell (j := 2) p1 rfl
  have HB := Lib.hid (hB0.trans (hgr2.mono (by omega)))
  have HR := Lib.hid hR
  clear hP hP0 hB0 q0 q1 hown hgr hat hgr2 p0 p1 hR
  go_enter Tryd.func10, Tryd.ntmps10
  go_wp2_with fail
  go_region_held3 (fun w' => w'.cell? ⟨w.heap.size, 0, none⟩ = some (.int .i64 a) ∧ w'.cell? ⟨w.heap.size, 1, none⟩ = some (.int .i64 b) ∧ w'.cell? ⟨w.heap.size, 2, none⟩ = some (.slice A n cap))
    (first | go_keep | (go_split_ands; exact ⟨m0, m1, m2⟩))
    ((refine step_app (by rfl) _ _ 22 (by rfl) _ _ (.slice A' n cap') w2 (by rfl) (by rfl) hrun ?_))
  all_goals go_wp2
  all_goals refine bodyPost_ret (v := .agg #[.int .i64 a, .int .i64 b, .slice A' n cap']) (by rw [results_cell1 rfl]; go_simp) rfl ?_
  all_goals refine ⟨⟨A', cap', rfl, ?_⟩, ?_⟩
  · exact (((HR.out.set (g := w.heap.size + 1) (by omega) 0 _).set (g := w.heap.size + 1) (by omega) 1 _).set (g := w.heap.size + 1) (by omega) 2 _).le (by omega)
  · exact ((HB.out.setCell (p := ⟨w.heap.size + 1, 0, none⟩) (by simp) _).setCell (p := ⟨w.heap.size + 1, 1, none⟩) (by simp) _).setCell (p := ⟨w.heap.size + 1, 2, none⟩) (by simp) _
end Go.Proofs.YthgafdbdmemkhaaDoor

namespace Go.Proofs.YthgafdbdmemkhaaDoor
set_option maxRecDepth 100000
set_option linter.unusedVariables false
open Go.ChangeShapes Go.WideShapes Go.ChangeAt Go.RowKit

def allEq (n : Nat) (c d : Nat → Nat) : Bool := (List.range n).all fun j => c j == d j
theorem allEq_t {n : Nat} {c d : Nat → Nat} (h : ∀ j, j < n → c j = d j) : allEq n c d = true := by simp [allEq]; exact h
theorem allEq_iff {n : Nat} {c d : Nat → Nat} : allEq n c d = true ↔ ∀ j, j < n → c j = d j := by simp [allEq]
theorem allEq_f {n k : Nat} {c d : Nat → Nat} (hk : k < n) (h : c k ≠ d k) : allEq n c d = false := by
  rw [← Bool.not_eq_true, allEq_iff]
  intro h2
  exact h (h2 k hk)
theorem agree_snoc {k : Nat} {c d : Nat → Nat} (h : ∀ j, j < k → c j = d j) (hk : c k = d k) : ∀ j, j < k + 1 → c j = d j := by
  intro j hj
  by_cases e : j = k
  · subst e; exact hk
  · exact h j (by omega)

def sameB (a b : Int) (n : Nat) (c : Nat → Nat) (a2 b2 : Int) (n2 : Nat) (d : Nat → Nat) : Bool := mayB a b n && (mayB a2 b2 n2 && (decide (a = a2) && (decide (b = b2) && allEq n c d)))
theorem same_cases (a b : Int) (n : Nat) (a2 b2 : Int) (n2 : Nat) : (mayB a b n = false) ∨ (mayB a b n = true ∧ mayB a2 b2 n2 = false) ∨ (mayB a b n = true ∧ mayB a2 b2 n2 = true ∧ ¬a = a2) ∨ (mayB a b n = true ∧ mayB a2 b2 n2 = true ∧ a = a2 ∧ ¬b = b2) ∨ (mayB a b n = true ∧ mayB a2 b2 n2 = true ∧ a = a2 ∧ b = b2 ∧ n = n2) := by
  cases h : mayB a b n
  · exact .inl rfl
  · cases h2 : mayB a2 b2 n2
    · exact .inr (.inl ⟨rfl, rfl⟩)
    · by_cases e : a = a2
      · by_cases e2 : b = b2
        · have h3 := (may_ok h).2
          have h4 := (may_ok h2).2
          subst e e2
          exact .inr (.inr (.inr (.inr ⟨rfl, rfl, rfl, rfl, by omega⟩)))
        · exact .inr (.inr (.inr (.inl ⟨rfl, rfl, e, e2⟩)))
      · exact .inr (.inr (.inl ⟨rfl, rfl, e⟩))

set_option maxRecDepth 100000 in
set_option maxHeartbeats 2000000 in
theorem same_ref (a b : Int) (A : Option Addr) (n cap : Nat) (c : Nat → Nat) (a2 b2 : Int) (A2 : Option Addr) (n2 cap2 : Nat) (d : Nat → Nat) (ha : In64 a) (hb : In64 b) (ha2 : In64 a2) (hb2 : In64 b2) (hn : n ≤ cap) (hmax : cap ≤ maxLen) (hn2 : n2 ≤ cap2) (hmax2 : cap2 ≤ maxLen)
    (w : World) (hP : Pix w A n c) (hP2 : Pix w A2 n2 d) :
    Calls Tryd.prog 11 #[.agg #[.int .i64 a, .int .i64 b, .slice A n cap], .agg #[.int .i64 a2, .int .i64 b2, .slice A2 n2 cap2]] w fun e w' => e = .returned (.bool (sameB a b n c a2 b2 n2 d)) ∧ Below w.heap.size w w' := by
  obtain ⟨q0, q1, q2, q3⟩ := two_boxes w #[.int .i64 a, .int .i64 b, .slice A n cap] #[.int .i64 a2, .int .i64 b2, .slice A2 n2 cap2] 24 24
  have hPa := hP.below q3
  have hPb := hP2.below q3
  clear hP hP2
  rcases same_cases a b n a2 b2 n2 with m1 | ⟨m1, m2⟩ | ⟨m1, m2, e1⟩ | ⟨m1, m2, e1, e2⟩ | ⟨m1, m2, e1, e2, e3⟩
  · have HG := Lib.hid (show sameB a b n c a2 b2 n2 d = false by simp [sameB, m1])
    have M1 := Lib.hid m1
    clear m1
    go_enter Tryd.func11, Tryd.ntmps11
    go_wp2_with fail
    refine (may_ref a b A n cap ha hb hn hmax _).mono ?_
    rintro e w2 ⟨rfl, hB⟩
    rw [M1.out]
    rw [q0] at hB
    have HB := Lib.hid (q3.trans (hB.mono (by omega)))
    clear hB q3
    go_wp2_with fail
    go_ret
    exact ⟨ret_b HG.out.symm, HB.out⟩
  all_goals
    have M1 := Lib.hid m1
    have M2 := Lib.hid m2
    clear m1 m2
  · have HG := Lib.hid (show sameB a b n c a2 b2 n2 d = false by simp [sameB, M2.out])
    go_enter Tryd.func11, Tryd.ntmps11
    go_wp2_with fail
    refine (may_ref a b A n cap ha hb hn hmax _).mono ?_
    rintro e w2 ⟨rfl, hB⟩
    rw [M1.out]
    rw [q0] at hB
    have p0 := hp_below q1 hB (by omega)
    have p1 := hp_below q2 hB (by omega)
    have k0 := hp_cell (j := 0) p0 rfl
    have k1 := hp_cell (j := 1) p0 rfl
    have k2 := hp_cell (j := 2) p0 rfl
    have l0 := hp_cell (j := 0) p1 rfl
    have l1 := hp_cell (j := 1) p1 rfl
    have l2 := hp_cell (j := 2) p1 rfl
    have hs2 := hB.size
    have HB := Lib.hid (q3.trans (hB.mono (by omega)))
    have HPa := Lib.hid (hPa.below (by rw [q0]; exact hB))
    have HPb := Lib.hid (hPb.below (by rw [q0]; exact hB))
    clear hB q1 q2 q3 hPa hPb
    go_wp2_with fail
    refine (may_ref a2 b2 A2 n2 cap2 ha2 hb2 hn2 hmax2 _).mono ?_
    rintro e w3 ⟨rfl, hB⟩
    rw [M2.out]
    have p0 := hp_below p0 hB (by omega)
    have p1 := hp_below p1 hB (by omega)
    have k0 := hp_cell (j := 0) p0 rfl
    have k1 := hp_cell (j := 1) p0 rfl
    have k2 := hp_cell (j := 2) p0 rfl
    have l0 := hp_cell (j := 0) p1 rfl
    have l1 := hp_cell (j := 1) p1 rfl
    have l2 := hp_cell (j := 2) p1 rfl
    have HPa := Lib.hid (HPa.out.below hB)
    have HPb := Lib.hid (HPb.out.below hB)
    have HB := Lib.hid (HB.out.trans (hB.mono HB.out.size))
    clear hB
    go_wp2_with fail
    go_ret
    exact ⟨ret_b HG.out.symm, HB.out⟩
  · have HG := Lib.hid (show sameB a b n c a2 b2 n2 d = false by simp [sameB, e1])
    have t1 : (a == a2) = false := by rw [beq_eq_false_iff_ne]; exact e1
    have t2 : (a != a2) = true := by rw [bne_iff_ne]; exact e1
    clear e1
    go_enter Tryd.func11, Tryd.ntmps11
    go_wp2_with fail
    refine (may_ref a b A n cap ha hb hn hmax _).mono ?_
    rintro e w2 ⟨rfl, hB⟩
    rw [M1.out]
    rw [q0] at hB
    have p0 := hp_below q1 hB (by omega)
    have p1 := hp_below q2 hB (by omega)
    have k0 := hp_cell (j := 0) p0 rfl
    have k1 := hp_cell (j := 1) p0 rfl
    have k2 := hp_cell (j := 2) p0 rfl
    have l0 := hp_cell (j := 0) p1 rfl
    have l1 := hp_cell (j := 1) p1 rfl
    have l2 := hp_cell (j := 2) p1 rfl
    have hs2 := hB.size
    have HB := Lib.hid (q3.trans (hB.mono (by omega)))
    have HPa := Lib.hid (hPa.below (by rw [q0]; exact hB))
    have HPb := Lib.hid (hPb.below (by rw [q0]; exact hB))
    clear hB q1 q2 q3 hPa hPb
    go_wp2_with fail
    refine (may_ref a2 b2 A2 n2 cap2 ha2 hb2 hn2 hmax2 _).mono ?_
    rintro e w3 ⟨rfl, hB⟩
    rw [M2.out]
    have p0 := hp_below p0 hB (by omega)
    have p1 := hp_below p1 hB (by omega)
    have k0 := hp_cell (j := 0) p0 rfl
    have k1 := hp_cell (j := 1) p0 rfl
    have k2 := hp_cell (j := 2) p0 rfl
    have l0 := hp_cell (j := 0) p1 rfl
    have l1 := hp_cell (j := 1) p1 rfl
    have l2 := hp_cell (j := 2) p1 rfl
    have HPa := Lib.hid (HPa.out.below hB)
    have HPb := Lib.hid (HPb.out.below hB)
    have HB := Lib.hid (HB.out.trans (hB.mono HB.out.size))
    clear hB
    go_wp2_with fail
    go_ret
    exact ⟨ret_b HG.out.symm, HB.out⟩
  · have HG := Lib.hid (show sameB a b n c a2 b2 n2 d = false by simp [sameB, e2])
    subst e1
    have t1 : (b == b2) = false := by rw [beq_eq_false_iff_ne]; exact e2
    have t2 : (b != b2) = true := by rw [bne_iff_ne]; exact e2
    clear e2
    go_enter Tryd.func11, Tryd.ntmps11
    go_wp2_with fail
    refine (may_ref a b A n cap ha hb hn hmax _).mono ?_
    rintro e w2 ⟨rfl, hB⟩
    rw [M1.out]
    rw [q0] at hB
    have p0 := hp_below q1 hB (by omega)
    have p1 := hp_below q2 hB (by omega)
    have k0 := hp_cell (j := 0) p0 rfl
    have k1 := hp_cell (j := 1) p0 rfl
    have k2 := hp_cell (j := 2) p0 rfl
    have l0 := hp_cell (j := 0) p1 rfl
    have l1 := hp_cell (j := 1) p1 rfl
    have l2 := hp_cell (j := 2) p1 rfl
    have hs2 := hB.size
    have HB := Lib.hid (q3.trans (hB.mono (by omega)))
    have HPa := Lib.hid (hPa.below (by rw [q0]; exact hB))
    have HPb := Lib.hid (hPb.below (by rw [q0]; exact hB))
    clear hB q1 q2 q3 hPa hPb
    go_wp2_with fail
    refine (may_ref a b2 A2 n2 cap2 ha2 hb2 hn2 hmax2 _).mono ?_
    rintro e w3 ⟨rfl, hB⟩
    rw [M2.out]
    have p0 := hp_below p0 hB (by omega)
    have p1 := hp_below p1 hB (by omega)
    have k0 := hp_cell (j := 0) p0 rfl
    have k1 := hp_cell (j := 1) p0 rfl
    have k2 := hp_cell (j := 2) p0 rfl
    have l0 := hp_cell (j := 0) p1 rfl
    have l1 := hp_cell (j := 1) p1 rfl
    have l2 := hp_cell (j := 2) p1 rfl
    have HPa := Lib.hid (HPa.out.below hB)
    have HPb := Lib.hid (HPb.out.below hB)
    have HB := Lib.hid (HB.out.trans (hB.mono HB.out.size))
    clear hB
    go_wp2_with fail
    go_ret
    exact ⟨ret_b HG.out.symm, HB.out⟩
  · subst e1 e2 e3
    have HG := Lib.hid (show sameB a b n c a b n d = allEq n c d by simp [sameB, M1.out])
    go_enter Tryd.func11, Tryd.ntmps11
    go_wp2_with fail
    refine (may_ref a b A n cap ha hb hn hmax _).mono ?_
    rintro e w2 ⟨rfl, hB⟩
    rw [M1.out]
    rw [q0] at hB
    have p0 := hp_below q1 hB (by omega)
    have p1 := hp_below q2 hB (by omega)
    have k0 := hp_cell (j := 0) p0 rfl
    have k1 := hp_cell (j := 1) p0 rfl
    have k2 := hp_cell (j := 2) p0 rfl
    have l0 := hp_cell (j := 0) p1 rfl
    have l1 := hp_cell (j := 1) p1 rfl
    have l2 := hp_cell (j := 2) p1 rfl
    have hs2 := hB.size
    have HB := Lib.hid (q3.trans (hB.mono (by omega)))
    have HPa := Lib.hid (hPa.below (by rw [q0]; exact hB))
    have HPb := Lib.hid (hPb.below (by rw [q0]; exact hB))
    clear hB q1 q2 q3 hPa hPb
    go_wp2_with fail
    refine (may_ref a b A2 n cap2 ha2 hb2 hn2 hmax2 _).mono ?_
    rintro e w3 ⟨rfl, hB⟩
    rw [M2.out]
    have p0 := hp_below p0 hB (by omega)
    have p1 := hp_below p1 hB (by omega)
    have k0 := hp_cell (j := 0) p0 rfl
    have k1 := hp_cell (j := 1) p0 rfl
    have k2 := hp_cell (j := 2) p0 rfl
    have l0 := hp_cell (j := 0) p1 rfl
    have l1 := hp_cell (j := 1) p1 rfl
    have l2 := hp_cell (j := 2) p1 rfl
    have HPa := Lib.hid (HPa.out.below hB)
    have HPb := Lib.hid (HPb.out.below hB)
    have HB := Lib.hid (HB.out.trans (hB.mono HB.out.size))
    clear hB
    go_wp2_with fail
    have hs3 := (Array.getElem?_eq_some_iff.1 p1).1
    unfold maxLen at hmax hmax2
    go_loopw [5] (fun x wr => ∃ k : Nat, k ≤ n ∧ x = .int .i64 k ∧ (∀ j, j < k → c j = d j) ∧ Below w3.heap.size w3 wr) (fun x _ => n - (intOf x).toNat)
    case atStart => exact ⟨0, by omega, rfl, fun j hj => absurd hj (by omega), Below.refl _ _⟩
    case round =>
      clear k0 k1 k2 l0 l1 l2
      obtain ⟨k, hk, rfl, hag, hB⟩ := hrel
      have HAG := Lib.hid hag
      clear hag
      have o0 := hp_below p0 hB (by omega)
      have o1 := hp_below p1 hB (by omega)
      have k2 := hp_cell (j := 2) o0 rfl
      have l2 := hp_cell (j := 2) o1 rfl
      by_cases hlt : k < n
      · obtain ⟨bk, off, rfl, hbl, hcl⟩ := HPa.out (by omega)
        obtain ⟨bk2, off2, rfl, hbl2, hcl2⟩ := HPb.out (by omega)
        have c0 : wr.cell? ⟨bk, off + k, none⟩ = some (.int .u16 (c k : Nat)) := (hB.cell (p := ⟨bk, off + k, none⟩) hbl).trans (hcl k hlt)
        have c1 : wr.cell? ⟨bk2, off2 + k, none⟩ = some (.int .u16 (d k : Nat)) := (hB.cell (p := ⟨bk2, off2 + k, none⟩) hbl2).trans (hcl2 k hlt)
        clear hcl hcl2
        by_cases he : c k = d k
        · have HS := Lib.hid (agree_snoc HAG.out he)
          have hb : ((c k : Int) == (d k : Int)) = true := by rw [he]; simp
          have hb2 : ((c k : Int) != (d k : Int)) = false := by rw [he]; simp
          clear he
          go_wp2_with fail
          go_quiet (fail)
          go_wp2_with fail
          go_roundw
          case rel => exact ⟨k + 1, by omega, by go_num, HS.out, below_drewN hB _⟩
          case measure => simp [intOf]; omega
        · have HF := Lib.hid (allEq_f hlt he)
          have hb : ((c k : Int) == (d k : Int)) = false := by rw [beq_eq_false_iff_ne]; omega
          have hb2 : ((c k : Int) != (d k : Int)) = true := by rw [bne_iff_ne]; omega
          clear he
          go_wp2_with fail
          go_quiet (fail)
          go_wp2_with fail
          go_ret
          exact ⟨ret_b (by rw [HG.out, HF.out]), HB.out.trans ((below_drewN hB _).mono HB.out.size)⟩
      · obtain rfl : k = n := by omega
        have HF := Lib.hid (allEq_t HAG.out)
        go_wp2_with fail
        go_ret
        exact ⟨ret_b (by rw [HG.out, HF.out]), HB.out.trans (hB.mono HB.out.size)⟩
end Go.Proofs.YthgafdbdmemkhaaDoor
