/- bmpwrite.opaque; what a file is. -/
import Derived.Test.YthgafdbdmemkhaaHead
namespace Go.Proofs.Ythgafdbdmemkhaa
set_option linter.unusedVariables false
open Go.ChangeShapes Go.WideShapes Go.ChangeAt Go.RowKit

def opqB (N : Nat) (c : Nat → Nat) : Bool := (List.range N).all fun i => c (4 * i + 3) == 65535
theorem opq_iff {N : Nat} {c : Nat → Nat} : opqB N c = true ↔ ∀ i, i < N → c (4 * i + 3) = 65535 := by simp [opqB]
theorem opq_f {N k : Nat} {c : Nat → Nat} (hk : k < N) (h : ¬c (4 * k + 3) = 65535) : opqB N c = false := by
  rw [← Bool.not_eq_true, opq_iff]
  intro h2
  exact h (h2 k hk)
set_option maxRecDepth 100000 in
set_option maxHeartbeats 1000000 in
theorem opaque_prog (a b : Int) (A : Option Addr) (N cap : Nat) (c : Nat → Nat) (hn : 4 * N ≤ cap) (hmax : cap ≤ maxLen) (hN : N ≤ 16384) (w : World) (hP : Pix w A (4 * N) c) :
    Calls Try.prog 15 #[.agg #[.int .i64 a, .int .i64 b, .slice A (4 * N) cap]] w fun e w' => e = .returned (.bool (opqB N c)) ∧ Below w.heap.size w w' := by
  unfold maxLen at hmax
  have hbx := hp_new0 w (.cells #[.int .i64 a, .int .i64 b, .slice A (4 * N) cap] 26)
  have k2 := hp_cell (j := 2) hbx rfl
  have HB := Lib.hid ((Below.refl _ w).alloc (Nat.le_refl _) (.cells #[.int .i64 a, .int .i64 b, .slice A (4 * N) cap] 26))
  obtain ⟨n, hne⟩ : ∃ n, n = 4 * N := ⟨_, rfl⟩
  rw [← hne] at hP k2 HB hn ⊢
  have HNE := Lib.hid hne
  clear hbx hne
  go_enter Try.func15, Try.ntmps15
  go_wp2_with fail
  go_loopw [3] (fun x wr => ∃ k : Nat, k ≤ N ∧ x = .int .i64 ((4 * k + 3 : Nat) : Int) ∧ (∀ i, i < k → c (4 * i + 3) = 65535) ∧ wr = w.alloc (.cells #[.int .i64 a, .int .i64 b, .slice A n cap] 26)) (fun x _ => n + 3 - (intOf x).toNat)
  case atStart => exact ⟨0, by omega, rfl, fun i hi => absurd hi (by omega), rfl⟩
  case round =>
    obtain ⟨k, hk, rfl, hag, rfl⟩ := hrel
    have HAG := Lib.hid hag
    clear hag
    obtain ⟨q, hq⟩ : ∃ q, q = 4 * k + 3 := ⟨_, rfl⟩
    have hnn := HNE.out
    by_cases hlt : k < N
    · obtain ⟨bk, off, rfl, hbl, hcl⟩ := hP (by omega)
      have c0 : (w.alloc (.cells #[.int .i64 a, .int .i64 b, .slice (some ⟨bk, off, none⟩) n cap] 26)).cell? ⟨bk, off + q, none⟩ = some (.int .u16 (c q : Nat)) := (HB.out.cell (p := ⟨bk, off + q, none⟩) hbl).trans (hcl q (by omega))
      rw [← hq]
      by_cases he : c q = 65535
      · have HS := Lib.hid (all_snoc (p := fun i => c (4 * i + 3) = 65535) HAG.out (by rw [← hq]; exact he))
        rw [he] at c0
        have hq4 : (q : Int) + 4 = ((4 * (k + 1) + 3 : Nat) : Int) := by omega
        have hqn : q < n := by omega
        have hw64 : wrap64 ((q : Int) + 4) = (q : Int) + 4 := IntWalk.wrap64_in _ (by omega)
        have hmq : n + 3 - (4 * (k + 1) + 3) < n + 3 - q := by omega
        have HQ := Lib.hid hq
        clear hcl hP hnn hq he hq4
        go_wp2_with fail
        go_roundw
        case rel => exact ⟨k + 1, by omega, congrArg (Value.int .i64) (by have := HQ.out; omega), HS.out, trivial⟩
        case measure => simp [intOf]; omega
      · have HF : Hid (opqB N c = false) := Lib.hid (opq_f hlt (by rw [← hq]; exact he))
        have hne9 : ((c q : Int) == 65535) = false := by rw [beq_eq_false_iff_ne]; omega
        have hqn : q < n := by omega
        have hqw := HB.out
        clear hcl hP hnn hq
        go_wp2_with fail
        go_ret
        exact ⟨ret_b HF.out.symm, hqw⟩
    · obtain rfl : k = N := by omega
      have HF : Hid (opqB k c = true) := Lib.hid (opq_iff.2 HAG.out)
      rw [← hq]
      have hqn : ¬q < n := by omega
      have hqw := HB.out
      clear hnn hq
      go_wp2_with fail
      go_ret
      exact ⟨ret_b HF.out.symm, hqw⟩
def partN (j : Nat) : Nat := if j = 3 then 3 else 2 - j
def partsH (gt : Bool) : Nat := if gt then 4 else 3
def pxL (P : Nat) (c : Nat → Nat) (q : Nat) : List Nat := (List.range P).map fun j => c (4 * q + partN j) / 257
def rowL (P a wide : Nat) (c : Nat → Nat) (y : Nat) : List Nat := (List.range a).flatMap (fun x => pxL P c (y * a + x)) ++ List.replicate (wide - P * a) 0
def rowsL (P a wide : Nat) (c : Nat → Nat) (b k : Nat) : List Nat := (List.range k).flatMap fun t => rowL P a wide c (b - 1 - t)
def wideH (gt : Bool) (a : Nat) : Nat := (a * bitsH gt + 31) / 32 * 4
def fileL (gt : Bool) (c : Nat → Nat) (a b : Nat) : List Nat := headL gt (wideH gt a) a b ++ rowsL (partsH gt) a (wideH gt a) c b b
theorem pxL_len (P : Nat) (c : Nat → Nat) (q : Nat) : (pxL P c q).length = P := by simp [pxL]
theorem flat_const {α : Type} {f : Nat → List α} {m : Nat} (h : ∀ x, (f x).length = m) (k : Nat) : ((List.range k).flatMap f).length = k * m := by
  induction k with
  | zero => simp
  | succ k ih => rw [List.range_succ, List.flatMap_append, List.length_append, ih, List.flatMap_singleton, h, Nat.add_mul]; omega
theorem pxs_len (P a : Nat) (c : Nat → Nat) (f : Nat → Nat) : ((List.range a).flatMap (fun x => pxL P c (f x))).length = a * P := flat_const (fun x => pxL_len P c (f x)) a
theorem rowL_len (P a wide : Nat) (c : Nat → Nat) (y : Nat) (h : P * a ≤ wide) : (rowL P a wide c y).length = wide := by
  rw [rowL, List.length_append, pxs_len, List.length_replicate, Nat.mul_comm a P]
  omega
theorem rowsL_len (P a wide : Nat) (c : Nat → Nat) (b k : Nat) (h : P * a ≤ wide) : (rowsL P a wide c b k).length = k * wide := flat_const (fun t => rowL_len P a wide c _ h) k
theorem rowsL_succ (P a wide : Nat) (c : Nat → Nat) (b k : Nat) : rowsL P a wide c b (k + 1) = rowsL P a wide c b k ++ rowL P a wide c (b - 1 - k) := by simp [rowsL, List.range_succ, List.flatMap_append]
theorem pxs_succ (P : Nat) (c : Nat → Nat) (f : Nat → Nat) (a : Nat) : (List.range (a + 1)).flatMap (fun x => pxL P c (f x)) = (List.range a).flatMap (fun x => pxL P c (f x)) ++ pxL P c (f a) := by simp [List.range_succ, List.flatMap_append]
theorem headL_len (gt : Bool) (wide a b : Nat) : (headL gt wide a b).length = 14 + sizeH gt := by
  cases gt <;> simp [headL, head1_len, zerL_len, masksL_len, sizeH]
end Go.Proofs.Ythgafdbdmemkhaa
