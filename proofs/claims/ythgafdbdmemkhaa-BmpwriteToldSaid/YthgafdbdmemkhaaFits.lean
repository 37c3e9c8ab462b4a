/- depth.bytes, clears, Fits; engraverref8.Fits. -/
import Derived.Test.YthgafdbdmemkhaaDep
import Derived.Test.YthgafdbdmemkhaaCols
import Derived.Test.YthgafdbdmemkhaaGet
namespace Go.Proofs.Ythgafdbdmemkhaa
set_option linter.unusedVariables false
open Go.ChangeShapes Go.WideShapes Go.ChangeAt Go.RowKit

def bytesB (n : Nat) (c : Nat → Nat) : Bool := (List.range n).all fun j => c j % 257 == 0
theorem bytes_t {n : Nat} {c : Nat → Nat} (h : ∀ j, j < n → c j % 257 = 0) : bytesB n c = true := by simp [bytesB]; exact h
theorem bytes_iff {n : Nat} {c : Nat → Nat} : bytesB n c = true ↔ ∀ j, j < n → c j % 257 = 0 := by simp [bytesB]
theorem bytes_f {n k : Nat} {c : Nat → Nat} (hk : k < n) (h : ¬c k % 257 = 0) : bytesB n c = false := by
  rw [← Bool.not_eq_true, bytes_iff]
  intro h2
  exact h (h2 k hk)
def okB (c : Nat → Nat) (i : Nat) : Bool := c (4 * i + 3) == 65535 || (c (4 * i) == 0 && (c (4 * i + 1) == 0 && (c (4 * i + 2) == 0 && c (4 * i + 3) == 0)))
def okPix (c : Nat → Nat) (i : Nat) : Prop := okB c i = true
theorem okPix_iff {c : Nat → Nat} {i : Nat} : okPix c i ↔ c (4 * i + 3) = 65535 ∨ (c (4 * i) = 0 ∧ c (4 * i + 1) = 0 ∧ c (4 * i + 2) = 0 ∧ c (4 * i + 3) = 0) := by simp [okPix, okB]
def clearB (N : Nat) (c : Nat → Nat) : Bool := (List.range N).all fun i => okB c i
theorem clear_iff {N : Nat} {c : Nat → Nat} : clearB N c = true ↔ ∀ i, i < N → okPix c i := by simp [clearB, okPix]
theorem clear_f {N k : Nat} {c : Nat → Nat} (hk : k < N) (h : ¬okPix c k) : clearB N c = false := by
  rw [← Bool.not_eq_true, clear_iff]
  intro h2
  exact h (h2 k hk)
theorem all_snoc {p : Nat → Prop} {k : Nat} (h : ∀ j, j < k → p j) (hk : p k) : ∀ j, j < k + 1 → p j := by
  intro j hj
  by_cases e : j = k
  · subst e; exact hk
  · exact h j (by omega)

set_option maxRecDepth 100000 in
set_option maxHeartbeats 1000000 in
theorem bytes_prog (a b : Int) (A : Option Addr) (n cap : Nat) (c : Nat → Nat) (hc : ∀ i, c i < 65536) (hn : n ≤ cap) (hmax : cap ≤ maxLen) (w : World) (hP : Pix w A n c) :
    Calls Try.prog 29 #[.agg #[.int .i64 a, .int .i64 b, .slice A n cap]] w fun e w' => e = .returned (.bool (bytesB n c)) ∧ Below w.heap.size w w' := by
  unfold maxLen at hmax
  have HC := Lib.hid hc
  clear hc
  go_enter Try.func29, Try.ntmps29
  go_wp2_with fail
  go_loopw [10] (fun x wr => ∃ k : Nat, k ≤ n ∧ x = .int .i64 k ∧ (∀ j, j < k → c j % 257 = 0) ∧ Below w.heap.size w wr) (fun x _ => n - (intOf x).toNat)
  case atStart => exact ⟨0, by omega, rfl, fun j hj => absurd hj (by omega), (Below.refl _ _).alloc (Nat.le_refl _) _⟩
  case round =>
    obtain ⟨k, hk, rfl, hag, hB⟩ := hrel
    have HAG := Lib.hid hag
    clear hag
    by_cases hlt : k < n
    · obtain ⟨bk, off, rfl, hbl, hcl⟩ := hP (by omega)
      have c0 : wr.cell? ⟨bk, off + k, none⟩ = some (.int .u16 (c k : Nat)) := (hB.cell (p := ⟨bk, off + k, none⟩) hbl).trans (hcl k hlt)
      have hck := HC.out k
      clear hcl hP
      by_cases he : c k % 257 = 0
      · have HS := Lib.hid (all_snoc (p := fun j => c j % 257 = 0) HAG.out he)
        have HE : eightB (c k : Int) = true := by simp [eightB]; omega
        go_wp2_with fail
        refine (eight13 _ (by omega) (by omega) _).mono ?_
        rintro e w' ⟨rfl, rfl⟩
        rw [HE]
        go_wp2_with fail
        go_roundw
        case rel => exact ⟨k + 1, by omega, by go_num, HS.out, hB⟩
        case measure => simp [intOf]; omega
      · have HF := Lib.hid (bytes_f hlt he)
        have HE : eightB (c k : Int) = false := by simp [eightB]; omega
        go_wp2_with fail
        refine (eight13 _ (by omega) (by omega) _).mono ?_
        rintro e w' ⟨rfl, rfl⟩
        rw [HE]
        go_wp2_with fail
        go_ret
        exact ⟨ret_b HF.out.symm, hB⟩
    · obtain rfl : k = n := by omega
      have HF := Lib.hid (bytes_t HAG.out)
      go_wp2_with fail
      go_ret
      exact ⟨ret_b HF.out.symm, hB⟩

theorem run_eq_zero (p : P4) (w : World) : (Op.equalIn 10000 48 (.agg #[.int .u16 (p.1 : Nat), .int .u16 (p.2.1 : Nat), .int .u16 (p.2.2.1 : Nat), .int .u16 (p.2.2.2 : Nat)]) (.agg #[.int .u16 0, .int .u16 0, .int .u16 0, .int .u16 0])).run Try.prog w
    = .ok (decide (p = (0, 0, 0, 0))) w := run_eqP p (0, 0, 0, 0) w
theorem row_lt {x y a b N : Nat} (hN : (a : Int) * (b : Int) = (N : Int)) (hx : x < a) (hy : y < b) : y * a + x < N := by
  have h1 : (y + 1) * a ≤ b * a := Nat.mul_le_mul_right _ (by omega)
  have h2 : a * b = N := by rw [← Int.natCast_inj, Int.natCast_mul]; exact hN
  rw [Nat.add_mul, Nat.one_mul] at h1
  rw [Nat.mul_comm b a, h2] at h1
  omega
theorem inB_xy {a b : Nat} {n x y : Nat} (hm : mayB a b n = true) (hx : x < a) (hy : y < b) : inB a b n x y = true := by
  simp [inB, hm, hx, hy]

set_option maxRecDepth 100000 in
set_option maxHeartbeats 2000000 in
theorem clears_prog (a b : Nat) (A : Option Addr) (n cap N : Nat) (c : Nat → Nat) (hN : (a : Int) * (b : Int) = (N : Int)) (hm : mayB a b n = true) (ha : In64 a) (hb : In64 b) (hn : n ≤ cap) (hmax : cap ≤ maxLen) (w : World) (hP : Pix w A n c) :
    Calls Try.prog 31 #[.agg #[.int .i64 a, .int .i64 b, .slice A n cap]] w fun e w' => e = .returned (.bool (clearB N c)) ∧ Below w.heap.size w w' := by
  obtain ⟨s1, s2, s3, s4, s5⟩ := size_ok (may_ok hm).1
  have HM := Lib.hid hm
  have HN := Lib.hid hN
  clear hm hN s5
  have hbx0 := hp_new0 w (.cells #[.int .i64 a, .int .i64 b, .slice A n cap] 26)
  have hB0 : Below w.heap.size w (w.alloc (.cells #[.int .i64 a, .int .i64 b, .slice A n cap] 26)) := (Below.refl _ _).alloc (Nat.le_refl _) _
  have hS0 : (w.alloc (.cells #[.int .i64 a, .int .i64 b, .slice A n cap] 26)).heap.size = w.heap.size + 1 := World.size_alloc _ _
  go_enter Try.func31, Try.ntmps31
  go_wp2_with fail
  generalize w.alloc (.cells #[.int .i64 a, .int .i64 b, .slice A n cap] 26) = w0 at *
  go_loopw [9] (fun v wr => ∃ y : Nat, y ≤ b ∧ v = .int .i64 y ∧ (∀ i, i < y * a → okPix c i) ∧ Below w0.heap.size w0 wr) (fun v _ => b - (intOf v).toNat)
  case atStart => exact ⟨0, by omega, rfl, fun i hi => absurd hi (by omega), Below.refl _ _⟩
  case round =>
    obtain ⟨y, hy, rfl, hag, hB⟩ := hrel
    have HAG := Lib.hid hag
    clear hag
    by_cases hyb : y < b
    · have hbx := hp_below hbx0 hB (by omega)
      have k0 := hp_cell (j := 0) hbx rfl
      go_wp2_with fail
      go_loopw [14] (fun v wr => ∃ x : Nat, x ≤ a ∧ v = .int .i64 x ∧ (∀ i, i < y * a + x → okPix c i) ∧ Below w0.heap.size w0 wr) (fun v _ => a - (intOf v).toNat)
      case atStart => exact ⟨0, by omega, rfl, HAG.out, hB⟩
      case round =>
        clear k0 hbx hB
        obtain ⟨x, hx, rfl, hag, hB⟩ := hrel
        have HAG2 := Lib.hid hag
        clear hag
        have hbx := hp_below hbx0 hB (by omega)
        have k0 := hp_cell (j := 0) hbx rfl
        have k1 := hp_cell (j := 1) hbx rfl
        have k2 := hp_cell (j := 2) hbx rfl
        by_cases hxa : x < a
        · obtain ⟨i, hi⟩ : ∃ i, i = y * a + x := ⟨_, rfl⟩
          have hiN := row_lt HN.out hxa hyb
          rw [← hi] at hiN
          have hgv : getV a b n c x y = .agg #[.int .u16 (c (4 * i) : Nat), .int .u16 (c (4 * i + 1) : Nat), .int .u16 (c (4 * i + 2) : Nat), .int .u16 (c (4 * i + 3) : Nat)] := by
            unfold getV
            rw [if_pos (inB_xy HM.out hxa hyb), ← Int.natCast_mul, ← Int.natCast_add, Int.toNat_natCast, ← hi]
            rfl
          have hib := inB_xy (n := n) HM.out hxa hyb
          have HV := Lib.hid hgv
          have HIB := Lib.hid hib
          have HI := Lib.hid hi
          have HPr := Lib.hid (hP.below (hB0.trans (hB.mono hB0.size)))
          clear hgv hib hi
          go_wp2_with fail
          refine (get_prog a b A n cap c x y ha hb hn hmax _ HPr.out).mono ?_
          rintro e w5 ⟨hB5, rfl⟩
          rw [HIB.out, HV.out]
          have hE := fun W => run_eq_zero (p4 c i) W
          have hB6 := hB.trans (hB5.mono hB.size)
          have HB6 := Lib.hid (hB6.alloc hB6.size (.cells #[.int .u16 (c (4 * i) : Nat), .int .u16 (c (4 * i + 1) : Nat), .int .u16 (c (4 * i + 2) : Nat), .int .u16 (c (4 * i + 3) : Nat)] 48))
          clear hB5 hB6 k0 k1 k2 hbx
          by_cases h3 : c (4 * i + 3) = 65535
          · have t3 : ((c (4 * i + 3) : Int) == 65535) = true := by rw [h3]; rfl
            have t4 : ((c (4 * i + 3) : Int) != 65535) = false := by rw [h3]; rfl
            have HS := Lib.hid (all_snoc (p := okPix c) HAG2.out (by rw [← HI.out]; exact okPix_iff.2 (.inl h3)))
            clear h3
            go_wp2_with fail
            go_roundw
            case rel => exact ⟨x + 1, by omega, by go_num, by rw [← Nat.add_assoc]; exact HS.out, HB6.out⟩
            case measure => simp [intOf]; omega
          · have t3 : ((c (4 * i + 3) : Int) == 65535) = false := by rw [beq_eq_false_iff_ne]; omega
            have t4 : ((c (4 * i + 3) : Int) != 65535) = true := by rw [bne_iff_ne]; omega
            by_cases hz : p4 c i = (0, 0, 0, 0)
            · rw [show decide (p4 c i = (0, 0, 0, 0)) = true from by simp [hz]] at hE
              have hz2 := hz
              simp only [p4, Prod.mk.injEq] at hz2
              simp only [p4] at hE
              have HS := Lib.hid (all_snoc (p := okPix c) HAG2.out (by rw [← HI.out]; exact okPix_iff.2 (.inr hz2)))
              clear h3 hz hz2
              go_wp2_with fail
              go_roundw
              case rel => exact ⟨x + 1, by omega, by go_num, by rw [← Nat.add_assoc]; exact HS.out, HB6.out⟩
              case measure => simp [intOf]; omega
            · rw [show decide (p4 c i = (0, 0, 0, 0)) = false from by simp [hz]] at hE
              simp only [p4] at hE
              have HF := Lib.hid (clear_f hiN (fun h => by
                rcases okPix_iff.1 h with h | h
                · exact h3 h
                · exact hz (by simp only [p4, Prod.mk.injEq]; exact h)))
              clear h3 hz
              go_wp2_with fail
              go_ret
              exact ⟨ret_b HF.out.symm, hB0.trans (HB6.out.mono hB0.size)⟩
        · obtain rfl : x = a := by omega
          go_wp2_with fail
          go_roundw
          case rel => exact ⟨y + 1, by omega, by go_num, by rw [Nat.add_mul, Nat.one_mul]; exact HAG2.out, hB⟩
          case measure => simp [intOf]; omega
    · obtain rfl : y = b := by omega
      have hF : clearB N c = true := clear_iff.2 (fun i hi => HAG.out i (by
        have h2 : a * y = N := by rw [← Int.natCast_inj, Int.natCast_mul]; exact HN.out
        rw [Nat.mul_comm, h2]; exact hi))
      have HF := Lib.hid hF
      clear hF
      go_wp2_with fail
      go_ret
      exact ⟨ret_b HF.out.symm, hB0.trans (hB.mono hB0.size)⟩
end Go.Proofs.Ythgafdbdmemkhaa
