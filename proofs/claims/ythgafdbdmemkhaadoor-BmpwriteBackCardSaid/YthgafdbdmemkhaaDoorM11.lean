/- A mask's run of ones, by its length and its number of ones: the plain law. math/bits' three, bmpread.Run. BMP: what a file comes to, by the document: plain words. bmpread's small functions: must, sample, backwards, two, four, signed, may, place, part. bmpread: may, part, place, next. bmpread: part, check. -/
import Derived.Test.YthgafdbdmemkhaaDoorM10
import Derived.Lib.BitFns
import Derived.Lib.TrailingZeros
import Derived.Lib.Strings
import Derived.Lib.Slices
import Derived.Lib.Small
import Derived.Lib.Walk
import Derived.BigQuiet
import Derived.StillTailTactics
import Derived.StillTactics
import Derived.Deep.CutBlock
import Derived.Deep.Cut
namespace Go.Proofs.YthgafdbdmemkhaaDoor
set_option maxRecDepth 100000
set_option linter.unusedVariables false

theorem p32 {x k : Nat} (h : x < 2 ^ (k + 1)) (hk : k + 1 ≤ 32) : x < 4294967296 := by
  have : 2 ^ (k + 1) ≤ 2 ^ 32 := Nat.pow_le_pow_right (by omega) hk
  omega
theorem bl_fuel : ∀ (f g x : Nat), x < 2 ^ f → f ≤ g → Lib.bitLenAux g x = Lib.bitLenAux f x ∧ Lib.popAux g x = Lib.popAux f x := by
  intro f
  induction f with
  | zero =>
    intro g x hx hg
    have : x = 0 := by simpa using hx
    subst this
    cases g with
    | zero => exact ⟨rfl, rfl⟩
    | succ g =>
      have key : ∀ k, Lib.popAux k 0 = 0 := fun k => by
        induction k with
        | zero => rfl
        | succ k ih => rw [Lib.popAux]; simpa using ih
      exact ⟨by simp [Lib.bitLenAux], by rw [key]; rfl⟩
  | succ f ih =>
    intro g x hx hg
    obtain ⟨g, rfl⟩ : ∃ k, g = k + 1 := ⟨g - 1, by omega⟩
    obtain ⟨h1, h2⟩ := ih g (x / 2) (by rw [Nat.pow_succ] at hx; omega) (by omega)
    rw [Lib.bitLenAux, Lib.bitLenAux, Lib.popAux, Lib.popAux, h1, h2]
    exact ⟨rfl, rfl⟩
theorem bl_step {x : Nat} (hx : x < 4294967296) (h0 : x ≠ 0) : Lib.bitLen x = 1 + Lib.bitLen (x / 2) := by
  have h := (bl_fuel 63 64 (x / 2) (by omega) (by omega)).1
  unfold Lib.bitLen
  rw [h]
  show Lib.bitLenAux (63 + 1) x = _
  rw [Lib.bitLenAux, if_neg h0]
theorem oc_step {x : Nat} (hx : x < 4294967296) : Lib.onesCount x = x % 2 + Lib.onesCount (x / 2) := by
  have h := (bl_fuel 63 64 (x / 2) (by omega) (by omega)).2
  unfold Lib.onesCount
  rw [h]
  rfl
theorem oc_le {x : Nat} : ∀ (k : Nat), k ≤ 32 → x < 2 ^ k → Lib.onesCount x ≤ Lib.bitLen x := by
  intro k
  induction k generalizing x with
  | zero =>
    intro _ h
    have : x = 0 := by simpa using h
    subst this
    decide
  | succ k ih =>
    intro hk h
    by_cases h0 : x = 0
    · subst h0; decide
    have hx : x < 4294967296 := p32 h hk
    have := ih (x := x / 2) (by omega) (by rw [Nat.pow_succ] at h; omega)
    rw [bl_step hx h0, oc_step hx]
    omega
theorem ev_facts : ∀ (k m : Nat), k ≤ 32 → m ≠ 0 → m < 2 ^ k → Lib.ctzFrom k m = (evZ k m).1 ∧ (evZ k m).2 % 2 = 1 ∧ (evZ k m).2 < 2 ^ k ∧ Lib.bitLen m = (evZ k m).1 + Lib.bitLen (evZ k m).2 ∧ Lib.onesCount m = Lib.onesCount (evZ k m).2 := by
  intro k
  induction k with
  | zero => intro m _ h0 h; exact absurd (by simpa using h) h0
  | succ k ih =>
    intro m hk h0 h
    have hx : m < 4294967296 := p32 h hk
    rw [evZ, Lib.ctzFrom]
    by_cases he : m % 2 = 0
    · rw [if_pos he, if_neg (by omega)]
      obtain ⟨a1, a2, a3, a4, a5⟩ := ih (m / 2) (by omega) (by omega) (by rw [Nat.pow_succ] at h; omega)
      refine ⟨by rw [a1]; omega, a2, by rw [Nat.pow_succ]; dsimp only; omega, ?_, ?_⟩
      · rw [bl_step hx h0, a4]
        dsimp only
        omega
      · rw [oc_step hx, he, a5]
        dsimp only
        omega
    · rw [if_neg he, if_pos (by omega)]
      exact ⟨rfl, by show m % 2 = 1; omega, h, by dsimp only; omega, rfl⟩
theorem on_facts : ∀ (k m : Nat), k ≤ 32 → m < 2 ^ k → (evZ 0 0).1 = 0 ∧ Lib.bitLen m = (onZ k m).1 + Lib.bitLen (onZ k m).2 ∧ Lib.onesCount m = (onZ k m).1 + Lib.onesCount (onZ k m).2 ∧ (onZ k m).2 % 2 = 0 ∧ (onZ k m).2 < 2 ^ k := by
  intro k
  induction k with
  | zero =>
    intro m _ h
    have : m = 0 := by simpa using h
    subst this
    exact ⟨rfl, rfl, rfl, rfl, by simp [onZ]⟩
  | succ k ih =>
    intro m hk h
    have hx : m < 4294967296 := p32 h hk
    rw [onZ]
    by_cases he : m % 2 = 1
    · rw [if_pos he]
      obtain ⟨a1, a2, a3, a4, a5⟩ := ih (m / 2) (by omega) (by rw [Nat.pow_succ] at h; omega)
      refine ⟨rfl, ?_, ?_, a4, by rw [Nat.pow_succ]; dsimp only; omega⟩
      · rw [bl_step hx (by omega), a2]
        dsimp only
        omega
      · rw [oc_step hx, he, a3]
        dsimp only
        omega
    · rw [if_neg he]
      exact ⟨rfl, by dsimp only; omega, by dsimp only; omega, by show m % 2 = 0; omega, h⟩
theorem oc_byte {x : Nat} (hx : x < 4294967296) : Lib.onesCount x = Lib.onesCount (x % 256) + Lib.onesCount (x / 256) := by
  have e : ∀ y, y < 4294967296 → Lib.onesCount y = y % 2 + (y / 2 % 2 + (y / 4 % 2 + (y / 8 % 2 + (y / 16 % 2 + (y / 32 % 2 + (y / 64 % 2 + (y / 128 % 2 + Lib.onesCount (y / 256)))))))) := fun y hy => by
    rw [oc_step hy, oc_step (x := y / 2) (by omega), oc_step (x := y / 2 / 2) (by omega), oc_step (x := y / 2 / 2 / 2) (by omega), oc_step (x := y / 2 / 2 / 2 / 2) (by omega), oc_step (x := y / 2 / 2 / 2 / 2 / 2) (by omega), oc_step (x := y / 2 / 2 / 2 / 2 / 2 / 2) (by omega), oc_step (x := y / 2 / 2 / 2 / 2 / 2 / 2 / 2) (by omega)]
    simp only [Nat.div_div_eq_div_mul]
  rw [e x hx, e (x % 256) (by omega), show x % 256 / 256 = 0 by omega, show Lib.onesCount 0 = 0 by decide]
  omega
theorem oc_bytes {x : Nat} (hx : x < 4294967296) : Lib.onesCount x = Lib.onesCount (x / 16777216) + Lib.onesCount (x / 65536 % 256) + Lib.onesCount (x / 256 % 256) + Lib.onesCount (x % 256) := by
  rw [oc_byte hx, oc_byte (x := x / 256) (by omega), oc_byte (x := x / 256 / 256) (by omega)]
  simp only [Nat.div_div_eq_div_mul]
  show Lib.onesCount (x % 256) + (Lib.onesCount (x / 256 % 256) + (Lib.onesCount (x / 65536 % 256) + Lib.onesCount (x / 16777216))) = _
  omega
theorem bl_shift : ∀ (k x : Nat), x < 4294967296 → 2 ^ k ≤ x → Lib.bitLen x = k + Lib.bitLen (x / 2 ^ k) := by
  intro k
  induction k with
  | zero => intro x _ _; simp
  | succ k ih =>
    intro x hx h
    have h2 : 2 ^ (k + 1) = 2 * 2 ^ k := by rw [Nat.pow_succ]; omega
    have hp : 0 < 2 ^ k := Nat.pow_pos (by omega)
    rw [bl_step hx (by omega), ih (x / 2) (by omega) (by omega), Nat.div_div_eq_div_mul, ← h2]
    omega
theorem bl_byte (j x : Nat) (hx : x < 4294967296) (h : 2 ^ (8 * j) ≤ x) : Lib.bitLen x = 8 * j + Lib.bitLen (x / 2 ^ (8 * j)) := bl_shift _ x hx h
/-- The run, by the lengths. -/
theorem run_bits {m : Nat} (hm : m < 4294967296) (h0 : m ≠ 0) :
    (Lib.bitLen m = Lib.ctz 32 m + Lib.onesCount m → runM m = (Lib.ctz 32 m, Lib.onesCount m, true)) ∧ (Lib.bitLen m ≠ Lib.ctz 32 m + Lib.onesCount m → runM m = (0, 0, false)) := by
  obtain ⟨a1, a2, a3, a4, a5⟩ := ev_facts 32 m (by omega) h0 (by simpa using hm)
  obtain ⟨x, hx⟩ : ∃ x, x = (evZ 32 m).2 := ⟨_, rfl⟩
  obtain ⟨e, he⟩ : ∃ e, e = (evZ 32 m).1 := ⟨_, rfl⟩
  obtain ⟨_, b2, b3, b4, b5⟩ := on_facts 32 x (by omega) (by rw [hx]; exact a3)
  rw [← hx] at a2 a3 a4 a5
  rw [← he] at a1 a4
  have hct : Lib.ctz 32 m = e := by unfold Lib.ctz; rw [if_neg h0, a1]
  obtain ⟨n, hn⟩ : ∃ n, n = (onZ 32 x).1 := ⟨_, rfl⟩
  obtain ⟨z, hz⟩ : ∃ z, z = (onZ 32 x).2 := ⟨_, rfl⟩
  rw [← hn, ← hz] at b2 b3
  rw [← hz] at b4 b5
  have hz0 : z = 0 → Lib.bitLen z = 0 ∧ Lib.onesCount z = 0 := fun h => by subst h; exact ⟨by decide, by decide⟩
  have hzn : z ≠ 0 → Lib.onesCount z < Lib.bitLen z := fun h => by
    have hz32 : z < 4294967296 := by simpa using b5
    have h1 := oc_le (x := z / 2) 31 (by omega) (by omega)
    rw [bl_step hz32 h, oc_step hz32, b4]
    omega
  have hr : runM m = if z = 0 then (e, n, true) else (0, 0, false) := by
    unfold runM
    rw [if_neg h0, ← hx, ← hz, ← he, ← hn]
  rw [hct, hr]
  by_cases h : z = 0
  · obtain ⟨z1, z2⟩ := hz0 h
    rw [if_pos h]
    exact ⟨fun _ => by rw [show Lib.onesCount m = n by omega], fun hne => absurd (by omega) hne⟩
  · have := hzn h
    rw [if_neg h]
    exact ⟨fun hq => absurd hq (by omega), fun _ => rfl⟩
theorem ev_val : ∀ (k m : Nat), m = 2 ^ (evZ k m).1 * (evZ k m).2 := by
  intro k
  induction k with
  | zero => intro m; simp [evZ]
  | succ k ih =>
    intro m
    rw [evZ]
    split
    · have h := ih (m / 2)
      dsimp only
      rw [Nat.pow_succ, Nat.mul_comm (2 ^ _) 2, Nat.mul_assoc, ← h]
      omega
    · simp
theorem on_val : ∀ (k m : Nat), m + 1 = 2 ^ (onZ k m).1 * ((onZ k m).2 + 1) := by
  intro k
  induction k with
  | zero => intro m; simp [onZ]
  | succ k ih =>
    intro m
    rw [onZ]
    split
    · have h := ih (m / 2)
      dsimp only
      rw [Nat.pow_succ, Nat.mul_comm (2 ^ _) 2, Nat.mul_assoc, ← h]
      omega
    · simp
/-- A mask that goes. -/
theorem run_val {m a n : Nat} (h : runM m = (a, n, true)) : m = 2 ^ a * (2 ^ n - 1) ∧ a ≤ 32 ∧ n ≤ 32 := by
  have hl := runM_le m
  rw [h] at hl
  refine ⟨?_, hl.1, hl.2⟩
  unfold runM at h
  split at h
  · simp at h
  · split at h
    · rename_i h1 h2
      simp only [Prod.mk.injEq, and_true] at h
      obtain ⟨ha, hn⟩ := h
      have e1 := ev_val 32 m
      have e2 := on_val 32 (evZ 32 m).2
      rw [h2, hn, Nat.zero_add, Nat.mul_one] at e2
      rw [ha] at e1
      have e3 : (evZ 32 m).2 = 2 ^ n - 1 := by omega
      rw [e3] at e1
      exact e1
    · simp at h
/-- A number's bits under a mask. -/
theorem and_run {m a n : Nat} (v : Nat) (h : runM m = (a, n, true)) : (v &&& m) / 2 ^ a = v / 2 ^ a % 2 ^ n := by
  obtain ⟨hm, _, _⟩ := run_val h
  have e : m / 2 ^ a = 2 ^ n - 1 := by
    rw [hm]
    exact Nat.mul_div_cancel_left _ (Nat.pow_pos (by omega))
  rw [← Nat.shiftRight_eq_div_pow, Nat.shiftRight_and_distrib, Nat.shiftRight_eq_div_pow, Nat.shiftRight_eq_div_pow, e, Nat.and_two_pow_sub_one_eq_mod]
/-- A sample under a mask. -/
def prtV (v m : Nat) : Int := if (runM m).2.2 = true then maskV ((v / 2 ^ (runM m).1 % 2 ^ (runM m).2.1 : Nat) : Int) ((runM m).2.1 : Nat) else 65535
theorem prt_bm (f : Nat → Nat) (v j : Nat) (h : (runM (f j)).2.2 = true ∨ j = 3) : prtV v (f j) = bmF f v j := by
  unfold prtV bmF
  rcases h with h | h
  · rw [if_pos h, if_pos h]
  · rw [if_pos h]
theorem run_sum {m a n : Nat} (h : runM m = (a, n, true)) (h0 : m ≠ 0) (k : Nat) : m < 2 ^ k ↔ a + n ≤ k := by
  obtain ⟨hm, _, _⟩ := run_val h
  have hn : 1 ≤ n := by
    rcases Nat.eq_zero_or_pos n with e | e
    · subst e; exact absurd (by simpa using hm) h0
    · exact e
  have h1 : 2 ^ (a + n) = 2 ^ a * 2 ^ n := Nat.pow_add _ _ _
  have h2 : 2 ^ n = 2 * 2 ^ (n - 1) := by
    obtain ⟨j, rfl⟩ : ∃ j, n = j + 1 := ⟨n - 1, by omega⟩
    rw [Nat.pow_succ]; simp; omega
  have p1 : 0 < 2 ^ (n - 1) := Nat.pow_pos (by omega)
  have h3 : 2 ^ (a + (n - 1)) ≤ m := by
    rw [Nat.pow_add, hm]
    exact Nat.mul_le_mul_left _ (by omega)
  have h4 : m < 2 ^ (a + n) := by
    rw [h1, hm]
    exact Nat.mul_lt_mul_of_pos_left (by omega) (Nat.pow_pos (by omega))
  constructor
  · intro hk
    have : 2 ^ (a + (n - 1)) < 2 ^ k := Nat.lt_of_le_of_lt h3 hk
    have := (Nat.pow_lt_pow_iff_right (show 1 < 2 by omega)).1 this
    omega
  · intro hk
    exact Nat.lt_of_lt_of_le h4 (Nat.pow_le_pow_right (by omega) hk)
end Go.Proofs.YthgafdbdmemkhaaDoor

namespace Go.Proofs.YthgafdbdmemkhaaDoor
set_option maxRecDepth 100000
set_option linter.unusedVariables false
open Go.ChangeShapes Go.WideShapes Go.ChangeAt Go.RowKit

/-- math/bits' table stands. -/
def TabW (w : World) : Prop := 0 < w.heap.size ∧ ∀ j, j < 32 → w.cell? ⟨0, j, none⟩ = some (.int .u8 ((Lib.deBruijn32tab.getD j 0 : Nat) : Int))
theorem TabW.below {w w' : World} (h : TabW w) (hb : Below w.heap.size w w') : TabW w' := ⟨Nat.lt_of_lt_of_le h.1 hb.size, fun j hj => (hb.cell (p := ⟨0, j, none⟩) h.1).trans (h.2 j hj)⟩
theorem tz_key (x a : Nat) (hx : x < 4294967296) (hx0 : x ≠ 0) (hlow : x &&& (4294967296 - x) = a) :
    bits BinOp.and IntKind.u32 (x : Int) (-(x : Int) % 4294967296) * 125613361 % 4294967296 / 134217728 = ((a * 125613361 % 4294967296 / 134217728 : Nat) : Int) := by
  have e1 : -(x : Int) % 4294967296 = ((4294967296 - x : Nat) : Int) := by omega
  rw [e1, u32_and_nat x _ hx (by omega), hlow]
  omega
set_option maxHeartbeats 1000000 in
theorem tz32 (x : Nat) (hx : x < 4294967296) (w : World) (hT : TabW w) : Calls Tryd.prog 68 #[.int .u32 (x : Nat)] w fun e w' => e = .returned (.int .i64 ((Lib.ctz 32 x : Nat) : Int)) ∧ w' = w := by
  by_cases h0 : x = 0
  · subst h0
    go_enter Tryd.func68, Tryd.ntmps68
    go_wp2
    go_ret
    exact ⟨rfl, rfl⟩
  · obtain ⟨hlow, hk⟩ := Lib.lowest_bit 32 x h0 hx
    obtain ⟨hi, htab⟩ := Lib.deBruijn32_at _ hk
    have hcell := hT.2 _ hi
    rw [htab] at hcell
    have key := tz_key x _ hx h0 hlow
    obtain ⟨k, hke⟩ : ∃ k, k = Lib.ctz 32 x := ⟨_, rfl⟩
    rw [← hke] at hcell hk hi key ⊢
    obtain ⟨idx, hidx⟩ : ∃ idx, idx = 2 ^ k * 125613361 % 4294967296 / 134217728 := ⟨_, rfl⟩
    rw [← hidx] at hcell hi key
    have hx0 : ((x : Int) == 0) = false := by simp; omega
    clear hlow htab hke hidx
    go_enter Tryd.func68, Tryd.ntmps68
    go_wp2_with (simp only [key])
    go_ret
    exact ⟨rfl, rfl⟩
theorem pop_nat (a : Nat) (h : a < 256) : Lib.pop8 (a : Int) = ((Lib.onesCount a : Nat) : Int) ∧ Lib.onesCount a ≤ 8 := ⟨Lib.pop8_eq ⟨a, h⟩, Lib.onesCount_le8 ⟨a, h⟩⟩
theorem and255 (x : Nat) (h : x < 4294967296) : bits .and .u32 (x : Int) 255 = ((x % 256 : Nat) : Int) := by
  have h1 := u32_and_nat x 255 h (by omega)
  rw [show ((255 : Nat) : Int) = 255 from rfl] at h1
  rw [h1, show (255 : Nat) = 2 ^ 8 - 1 from rfl, Nat.and_two_pow_sub_one_eq_mod]
theorem len_nat (a : Nat) (h : a < 256) : Lib.len8 (a : Int) = ((Lib.bitLen a : Nat) : Int) ∧ Lib.bitLen a ≤ 8 := ⟨Lib.len8_eq ⟨a, h⟩, Lib.bitLen_le8 ⟨a, h⟩⟩
set_option maxRecDepth 100000 in
theorem len32_core (x y n : Nat) (hx : x < 4294967296) (w : World) (hy : y < 256) (hc : (x < 256 ∧ y = x ∧ n = 0) ∨ (256 ≤ x ∧ x < 65536 ∧ y = x / 256 ∧ n = 8) ∨ (65536 ≤ x ∧ x / 65536 < 256 ∧ y = x / 65536 ∧ n = 16) ∨ (65536 ≤ x ∧ 256 ≤ x / 65536 ∧ y = x / 65536 / 256 ∧ n = 24)) :
    Calls Tryd.prog 70 #[.int .u32 (x : Nat)] w fun e w' => e = .returned (.int .i64 ((n + Lib.bitLen y : Nat) : Int)) ∧ w' = w := by
  obtain ⟨p1, q1⟩ := len_nat y hy
  have y0 : (0 : Int) ≤ (y : Int) := by omega
  have y1 : (y : Int) ≤ 255 := by omega
  obtain ⟨l, hl⟩ : ∃ l, l = Lib.bitLen y := ⟨_, rfl⟩
  rw [← hl] at p1 q1 ⊢
  clear hl
  rcases hc with ⟨h1, rfl, rfl⟩ | ⟨h1, h2, hye, rfl⟩ | ⟨h1, h2, hye, rfl⟩ | ⟨h1, h2, hye, rfl⟩
  · have d1 : decide ((65536 : Int) ≤ (y : Int)) = false := decide_eq_false (by omega)
    have d2 : decide ((256 : Int) ≤ (y : Int)) = false := decide_eq_false (by omega)
    go_enter Tryd.func70, Tryd.ntmps70
    go_wp2
    go_ret
    exact ⟨by simp, rfl⟩
  · have d1 : decide ((65536 : Int) ≤ (x : Int)) = false := decide_eq_false (by omega)
    have d2 : decide ((256 : Int) ≤ (x : Int)) = true := decide_eq_true (by omega)
    have e1 : (x : Int) / 256 = (y : Int) := by omega
    clear hye
    go_enter Tryd.func70, Tryd.ntmps70
    go_wp2
    go_ret
    exact ⟨by simp, rfl⟩
  · obtain ⟨z, hz⟩ : ∃ z, z = x / 65536 := ⟨_, rfl⟩
    rw [← hz] at h2 hye
    subst hye
    have d1 : decide ((65536 : Int) ≤ (x : Int)) = true := decide_eq_true (by omega)
    have e1 : (x : Int) / 65536 = (y : Int) := by omega
    have d2 : decide ((256 : Int) ≤ (y : Int)) = false := decide_eq_false (by omega)
    clear hz
    go_enter Tryd.func70, Tryd.ntmps70
    go_wp2
    go_ret
    exact ⟨by simp, rfl⟩
  · obtain ⟨z, hz⟩ : ∃ z, z = x / 65536 := ⟨_, rfl⟩
    rw [← hz] at h2 hye
    have d1 : decide ((65536 : Int) ≤ (x : Int)) = true := decide_eq_true (by omega)
    have e1 : (x : Int) / 65536 = (z : Int) := by omega
    have d2 : decide ((256 : Int) ≤ (z : Int)) = true := decide_eq_true (by omega)
    have e2 : (z : Int) / 256 = (y : Int) := by omega
    clear hz hye
    go_enter Tryd.func70, Tryd.ntmps70
    go_wp2
    go_ret
    exact ⟨by simp, rfl⟩
theorem len32 (x : Nat) (hx : x < 4294967296) (w : World) : Calls Tryd.prog 70 #[.int .u32 (x : Nat)] w fun e w' => e = .returned (.int .i64 ((Lib.bitLen x : Nat) : Int)) ∧ w' = w := by
  by_cases c1 : x < 256
  · have h := len32_core x x 0 hx w c1 (.inl ⟨c1, rfl, rfl⟩)
    rwa [Nat.zero_add] at h
  · by_cases c2 : x < 65536
    · have h := len32_core x (x / 256) 8 hx w (by omega) (.inr (.inl ⟨by omega, c2, rfl, rfl⟩))
      rwa [← bl_byte 1 x hx (by omega)] at h
    · by_cases c3 : x / 65536 < 256
      · have h := len32_core x (x / 65536) 16 hx w c3 (.inr (.inr (.inl ⟨by omega, c3, rfl, rfl⟩)))
        rwa [← bl_byte 2 x hx (by omega)] at h
      · have h := len32_core x (x / 65536 / 256) 24 hx w (by omega) (.inr (.inr (.inr ⟨by omega, by omega, rfl, rfl⟩)))
        rw [Nat.div_div_eq_div_mul] at h
        rwa [← bl_byte 3 x hx (by omega)] at h
set_option maxRecDepth 100000 in
set_option maxHeartbeats 4000000 in
theorem ones32 (x : Nat) (hx : x < 4294967296) (w : World) : Calls Tryd.prog 69 #[.int .u32 (x : Nat)] w fun e w' => e = .returned (.int .i64 ((Lib.onesCount x : Nat) : Int)) ∧ ∃ k, w' = w.drewN k := by
  rw [oc_bytes hx]
  obtain ⟨a, ha⟩ : ∃ a, a = x / 16777216 := ⟨_, rfl⟩
  obtain ⟨b, hb⟩ : ∃ b, b = x / 65536 % 256 := ⟨_, rfl⟩
  obtain ⟨c, hc⟩ : ∃ c, c = x / 256 % 256 := ⟨_, rfl⟩
  obtain ⟨d, hd⟩ : ∃ d, d = x % 256 := ⟨_, rfl⟩
  rw [← ha, ← hb, ← hc, ← hd]
  have e1 : (x : Int) / 16777216 = (a : Int) := by omega
  have b2 := and255 (x / 65536) (by omega)
  have b3 := and255 (x / 256) (by omega)
  have b4 := and255 x hx
  rw [← hb, Int.natCast_ediv] at b2
  rw [← hc, Int.natCast_ediv] at b3
  rw [← hd] at b4
  rw [show ((65536 : Nat) : Int) = 65536 from rfl] at b2
  rw [show ((256 : Nat) : Int) = 256 from rfl] at b3
  obtain ⟨p1, q1⟩ := pop_nat a (by omega)
  obtain ⟨p2, q2⟩ := pop_nat b (by omega)
  obtain ⟨p3, q3⟩ := pop_nat c (by omega)
  obtain ⟨p4, q4⟩ := pop_nat d (by omega)
  have i0 : (0 : Int) ≤ (a : Int) ∧ (0 : Int) ≤ (b : Int) ∧ (0 : Int) ≤ (c : Int) ∧ (0 : Int) ≤ (d : Int) := ⟨by omega, by omega, by omega, by omega⟩
  obtain ⟨a0, b0, c0, d0⟩ := i0
  have a1 : (a : Int) ≤ 255 := by omega
  have b1 : (b : Int) ≤ 255 := by omega
  have c1 : (c : Int) ≤ 255 := by omega
  have d1 : (d : Int) ≤ 255 := by omega
  generalize Lib.onesCount a = oa at *
  generalize Lib.onesCount b = ob at *
  generalize Lib.onesCount c = oc at *
  generalize Lib.onesCount d = od at *
  clear ha hb hc hd
  go_enter Tryd.func69, Tryd.ntmps69
  go_wp2_with fail
  go_region
  go_wp2
  go_ret
  exact ⟨by simp, 1, rfl⟩
theorem TabW.drewN {w : World} (h : TabW w) (k : Nat) : TabW (w.drewN k) := ⟨h.1, h.2⟩
theorem ctz_le {m : Nat} (hm : m < 4294967296) : Lib.ctz 32 m ≤ 32 := by
  by_cases h0 : m = 0
  · subst h0; decide
  · exact Nat.le_of_lt (Lib.lowest_bit 32 m h0 hm).2
theorem oc_le32 {m : Nat} (hm : m < 4294967296) : Lib.onesCount m ≤ 32 := by
  have h1 := oc_le (x := m) 32 (by omega) hm
  have h2 := Lib.bitLenAux_le 64 m 32 hm
  unfold Lib.bitLen at h1
  omega
set_option maxRecDepth 100000 in
set_option maxHeartbeats 1000000 in
theorem run_prog (m : Nat) (hm : m < 4294967296) (w : World) (hT : TabW w) :
    Calls Tryd.prog 63 #[.int .u32 (m : Nat)] w fun e w' => e = .returned (.tuple #[.int .i64 ((runM m).1 : Nat), .int .i64 ((runM m).2.1 : Nat), .bool (runM m).2.2]) ∧ ∃ k, w' = w.drewN k := by
  by_cases h0 : m = 0
  · subst h0
    go_enter Tryd.func63, Tryd.ntmps63
    go_wp2_with fail
    go_ret3
    exact ⟨rfl, 0, rfl⟩
  · obtain ⟨r1, r2⟩ := run_bits hm h0
    have hz : ((m : Int) == 0) = false := beq_eq_false_iff_ne.2 (by omega)
    have hc := ctz_le hm
    have ho := oc_le32 hm
    have tz := tz32 m hm w hT
    obtain ⟨a, ha⟩ : ∃ a, a = Lib.ctz 32 m := ⟨_, rfl⟩
    obtain ⟨o, hoe⟩ : ∃ o, o = Lib.onesCount m := ⟨_, rfl⟩
    obtain ⟨l, hl⟩ : ∃ l, l = Lib.bitLen m := ⟨_, rfl⟩
    have oc := fun w => ones32 m hm w
    have ln := fun w => len32 m hm w
    rw [← ha] at r1 r2 hc tz
    rw [← hoe] at r1 r2 ho oc
    rw [← hl] at r1 r2 ln
    have TZ := Lib.hid tz
    have OC := Lib.hid oc
    have LN := Lib.hid ln
    clear ha hoe hl tz oc ln hT
    by_cases hlen : l = a + o
    · have HR := Lib.hid (r1 hlen)
      have d1 : ((l : Int) != (a : Int) + (o : Int)) = false := by simp; omega
      clear r1 r2 hlen
      go_enter Tryd.func63, Tryd.ntmps63
      go_wp2_with fail
      refine TZ.out.mono ?_
      rintro e w1 ⟨rfl, rfl⟩
      go_wp2_with fail
      refine (OC.out _).mono ?_
      rintro e w2 ⟨rfl, k, rfl⟩
      go_wp2_with fail
      refine (LN.out _).mono ?_
      rintro e w3 ⟨rfl, rfl⟩
      go_wp2_with fail
      go_ret3
      rw [HR.out]
      exact ⟨rfl, k, rfl⟩
    · have HR := Lib.hid (r2 hlen)
      have d1 : ((l : Int) != (a : Int) + (o : Int)) = true := by simp; omega
      clear r1 r2 hlen
      go_enter Tryd.func63, Tryd.ntmps63
      go_wp2_with fail
      refine TZ.out.mono ?_
      rintro e w1 ⟨rfl, rfl⟩
      go_wp2_with fail
      refine (OC.out _).mono ?_
      rintro e w2 ⟨rfl, k, rfl⟩
      go_wp2_with fail
      refine (LN.out _).mono ?_
      rintro e w3 ⟨rfl, rfl⟩
      go_wp2_with fail
      go_ret3
      rw [HR.out]
      exact ⟨rfl, k, rfl⟩
end Go.Proofs.YthgafdbdmemkhaaDoor

namespace Go.Proofs.YthgafdbdmemkhaaDoor
set_option maxRecDepth 100000
set_option linter.unusedVariables false

def noB : Nat → Nat := fun _ => 0
/-- What the head says. -/
def bmS (b : Nat → Nat) : Nat := lowD b 14 4
def bmW (b : Nat → Nat) : Int := sgnV (lowD b 18 4)
def bmH (b : Nat → Nat) : Int := sgnV (lowD b 22 4)
def bmBits (b : Nat → Nat) : Nat := lowD b 28 2
def bmK (b : Nat → Nat) : Nat := lowD b 30 4
def bmOff (b : Nat → Nat) : Nat := lowD b 10 4
def bmMany (b : Nat → Nat) : Nat := if bmS b = 108 then 4 else 3
def m16 (i : Nat) : Nat := if i = 0 then 31744 else if i = 1 then 992 else if i = 2 then 31 else 0
def m32 (i : Nat) : Nat := if i = 0 then 16711680 else if i = 1 then 65280 else if i = 2 then 255 else 0
def mDef (bits i : Nat) : Nat := if bits = 16 then m16 i else if bits = 32 then m32 i else 0
/-- The masks. -/
def bmMask (b : Nat → Nat) (i : Nat) : Nat := if bmK b = 3 ∧ i < bmMany b then lowD b (54 + 4 * i) 4 else mDef (bmBits b) i
def bmFine (bits kind : Nat) (h : Int) : Bool :=
  decide ((bits = 1 ∨ bits = 4 ∨ bits = 8 ∨ bits = 16 ∨ bits = 24 ∨ bits = 32) ∧ kind ≤ 3 ∧ (kind = 1 → bits = 8 ∧ 0 ≤ h) ∧ (kind = 2 → bits = 4 ∧ 0 ≤ h) ∧ (kind = 3 → bits = 16 ∨ bits = 32))
/-- Where the head ends. -/
def bmE1 (b : Nat → Nat) : Nat := 14 + bmS b + (if bmK b = 3 ∧ bmS b = 40 then 12 else 0)
def bmUsed (b : Nat → Nat) : Nat := if lowD b 46 4 = 0 then 2 ^ bmBits b else lowD b 46 4
def bmE2 (b : Nat → Nat) : Nat := bmE1 b + (if bmBits b ≤ 8 then 4 * bmUsed b else 0)
def back3 (b : Nat → Nat) (p : Nat) : P4 := (b (p + 2) * 257, b (p + 1) * 257, b p * 257, 65535)
def bmCols (b : Nat → Nat) : List P4 := if bmBits b ≤ 8 then (List.range (bmUsed b)).map fun i => back3 b (bmE1 b + 4 * i) else []
/-- What is wrong with a head (0: nothing). -/
def bmErr (b : Nat → Nat) (n : Nat) : Nat :=
  if 262144 < n then 3
  else if n < 54 then 2
  else if ¬(b 0 = 66 ∧ b 1 = 77) then 4
  else if ¬(bmS b = 40 ∨ bmS b = 108) then 4
  else if n < 14 + bmS b then 2
  else if ¬(lowD b 26 2 = 1 ∧ 0 < bmW b ∧ bmH b ≠ 0 ∧ bmFine (bmBits b) (bmK b) (bmH b) = true) then 4
  else if sizeE (bmW b) ((bmH b).natAbs : Nat) ≠ 0 then 6
  else if bmK b = 3 ∧ n < 54 + 4 * bmMany b then 2
  else if bmK b = 3 ∧ masksB (bmMask b) (bmBits b) = false then 4
  else if bmBits b ≤ 8 ∧ 2 ^ bmBits b < bmUsed b then 4
  else if bmBits b ≤ 8 ∧ n < bmE1 b + 4 * bmUsed b then 2
  else if bmOff b < bmE2 b then 4
  else if n < bmOff b then 2
  else 0
/-- A pixel of a number, by masks. -/
def bm4 (f : Nat → Nat) (v : Nat) : P4 := ((bmF f v 0).toNat, (bmF f v 1).toNat, (bmF f v 2).toNat, (bmF f v 3).toNat)
/-- The i-th pixel of a row that begins at p. -/
def bmPx (b : Nat → Nat) (bits : Nat) (f : Nat → Nat) (cols : List P4) (p i : Nat) : Option P4 :=
  if bits = 16 then some (bm4 f (lowD b (p + 2 * i) 2))
  else if bits = 24 then some (back3 b (p + 3 * i))
  else if bits = 32 then some (bm4 f (lowD b (p + 4 * i) 4))
  else if cols.length ≤ b (p + i * bits / 8) / 2 ^ (8 - bits - i * bits % 8) % 2 ^ bits then none
  else some ((cols[b (p + i * bits / 8) / 2 ^ (8 - bits - i * bits % 8) % 2 ^ bits]?).getD (0, 0, 0, 0))
/-- Pixels drawn from the t-th on. -/
def drawB (px : Nat → Option P4) (pos : Nat → Nat) : Nat → Nat → (Nat → Nat) → Option (Nat → Nat)
  | 0, _, c => some c
  | k + 1, t, c => match px t with
    | none => none
    | some p => drawB px pos k (t + 1) (setC c (pos t) p)
def bmWide (W bits : Nat) : Nat := (W * bits + 31) / 32 * 4
def bmY (H : Nat) (down : Bool) (k : Nat) : Nat := if down = true then k else H - 1 - k
/-- The rows. -/
def bmRows (b : Nat → Nat) (n W H bits off : Nat) (down : Bool) (f : Nat → Nat) (cols : List P4) : (Nat → Nat) × Nat :=
  if n - off < bmWide W bits * H then (noB, 2)
  else match drawB (fun t => bmPx b bits f cols (off + t / W * bmWide W bits) (t % W)) (fun t => bmY H down (t / W) * W + t % W) (W * H) 0 noB with
    | none => (noB, 4)
    | some c => (c, 0)
/-- Places put one after another, from the i-th of a run on: where it stands then, the samples; the error. -/
def putsB (W H : Nat) (cols : List P4) (y : Nat) (g : Nat → Option Nat) : Nat → Nat → Nat → (Nat → Nat) → Nat × (Nat → Nat) × Nat
  | 0, _, x, c => (x, c, 0)
  | k + 1, i, x, c => match g i with
    | none => (x, c, 2)
    | some v => if W ≤ x ∨ H ≤ y ∨ cols.length ≤ v then (x, c, 4)
      else putsB W H cols y g k (i + 1) (x + 1) (setC c ((H - 1 - y) * W + x) ((cols[v]?).getD (0, 0, 0, 0)))
def nib (kind v i : Nat) : Nat := if kind = 2 then (if i % 2 = 0 then v / 16 else v % 16) else v
/-- Runs, from a place on. -/
def runsB (b : Nat → Nat) (n W H kind : Nat) (cols : List P4) : Nat → Nat → Nat → Nat → (Nat → Nat) → (Nat → Nat) × Nat
  | 0, _, _, _, _ => (noB, 2)
  | K + 1, p, x, y, c =>
    if n < p + 2 then (noB, 2)
    else if 0 < b p then
      if (putsB W H cols y (fun i => some (nib kind (b (p + 1)) i)) (b p) 0 x c).2.2 ≠ 0 then (noB, (putsB W H cols y (fun i => some (nib kind (b (p + 1)) i)) (b p) 0 x c).2.2)
      else runsB b n W H kind cols K (p + 2) (putsB W H cols y (fun i => some (nib kind (b (p + 1)) i)) (b p) 0 x c).1 y (putsB W H cols y (fun i => some (nib kind (b (p + 1)) i)) (b p) 0 x c).2.1
    else if b (p + 1) = 0 then runsB b n W H kind cols K (p + 2) 0 (y + 1) c
    else if b (p + 1) = 1 then (c, 0)
    else if b (p + 1) = 2 then
      if n < p + 4 then (noB, 2)
      else if W < x + b (p + 2) ∨ H ≤ y + b (p + 3) then (noB, 4)
      else runsB b n W H kind cols K (p + 4) (x + b (p + 2)) (y + b (p + 3)) c
    else
      if (putsB W H cols y (fun i => if n ≤ p + 2 + (if kind = 2 then i / 2 else i) then none else some (nib kind (b (p + 2 + (if kind = 2 then i / 2 else i))) i)) (b (p + 1)) 0 x c).2.2 ≠ 0 then (noB, (putsB W H cols y (fun i => if n ≤ p + 2 + (if kind = 2 then i / 2 else i) then none else some (nib kind (b (p + 2 + (if kind = 2 then i / 2 else i))) i)) (b (p + 1)) 0 x c).2.2)
      else runsB b n W H kind cols K (p + 2 + ((if kind = 2 then (b (p + 1) + 1) / 2 else b (p + 1)) + (if kind = 2 then (b (p + 1) + 1) / 2 else b (p + 1)) % 2))
        (putsB W H cols y (fun i => if n ≤ p + 2 + (if kind = 2 then i / 2 else i) then none else some (nib kind (b (p + 2 + (if kind = 2 then i / 2 else i))) i)) (b (p + 1)) 0 x c).1 y (putsB W H cols y (fun i => if n ≤ p + 2 + (if kind = 2 then i / 2 else i) then none else some (nib kind (b (p + 2 + (if kind = 2 then i / 2 else i))) i)) (b (p + 1)) 0 x c).2.1
/-- A file: the picture's samples, or the error. Its sides are bmW and bmH (without its sign). -/
def bmG (b : Nat → Nat) (n : Nat) : (Nat → Nat) × Nat :=
  if bmErr b n ≠ 0 then (noB, bmErr b n)
  else if bmK b = 1 ∨ bmK b = 2 then runsB b n (bmW b).toNat (bmH b).natAbs (bmK b) (bmCols b) (n + 1) (bmOff b) 0 0 noB
  else bmRows b n (bmW b).toNat (bmH b).natAbs (bmBits b) (bmOff b) (decide (bmH b < 0)) (bmMask b) (bmCols b)
end Go.Proofs.YthgafdbdmemkhaaDoor

namespace Go.Proofs.YthgafdbdmemkhaaDoor
set_option maxRecDepth 100000
set_option linter.unusedVariables false
open Go.ChangeShapes Go.WideShapes Go.ChangeAt Go.RowKit

/-- It breaks with an error. -/
def PanB (k : Int) (e : Ending) : Prop := e = .panicked [{ v := .iface 27 (.int .i64 k), recovered := false }]
theorem bmust_yes (q : Int) (w : World) : Calls Tryd.prog 45 #[.bool true, .int .i64 q] w fun e w' => e = .returned (.tuple #[]) ∧ w = w' := by
  go_enter Tryd.func45, Tryd.ntmps45
  go_wp2
  go_end0
  exact ⟨rfl, rfl⟩
theorem bmust_no (q : Int) (w : World) : Calls Tryd.prog 45 #[.bool false, .int .i64 q] w fun e w' => PanB q e ∧ w = w' := by
  go_enter Tryd.func45, Tryd.ntmps45
  go_wp2
  exact ⟨rfl, rfl, rfl⟩
theorem upV8b (x : Nat) (hx : x < 256) : upV (x : Int) 8 = ((x * 257 : Nat) : Int) := by
  have h : upB (x : Int) 8 = true := by
    simp [upB]
    omega
  rw [upV, h]
  simp
theorem sample_b (x : Nat) (hx : x < 256) (w : World) :
    Calls Tryd.prog 64 #[.int .u8 (x : Nat)] w fun e w' => e = .returned (.int .u16 ((x * 257 : Nat) : Int)) ∧ w' = w := by
  go_enter Tryd.func64, Tryd.ntmps64
  go_wp2_with fail
  refine (up9 (x : Int) 8 (by omega) (by omega) _).mono ?_
  rintro e w1 ⟨rfl, rfl⟩
  rw [upV8b x hx]
  go_wp2_with fail
  go_ret
  exact ⟨by simp, rfl⟩
theorem or256 (x y : Nat) (hx : x < 256) (hy : y < 16777216) : bits .or .i64 (x : Int) ((y : Int) * 256) = (x : Int) + 256 * (y : Int) := by
  have h2 := i64_or_nat x (256 * y) (by omega) (by omega)
  have h3 : x ||| 256 * y = x + 256 * y := by
    rw [Nat.or_comm, Nat.mul_comm, or_byte y x hx]
    omega
  rw [h3, Int.natCast_mul, show ((256 : Nat) : Int) = 256 from rfl] at h2
  rw [Int.mul_comm, h2]
  omega
set_option maxRecDepth 100000 in
set_option maxHeartbeats 1000000 in
theorem two_b (g p m cap : Nat) (A : Option Addr) (d : Nat → Nat) (hd : ∀ i, d i < 256) (hp : p + 2 ≤ m) (hm : m ≤ 262144) (w : World) (hg : w.cell? ⟨g, 0, none⟩ = some (.slice A m cap)) (hB : Byt w A m d) :
    Calls Tryd.prog 51 #[.pointer (some ⟨g, 0, none⟩), .int .i64 (p : Nat)] w fun e w' => e = .returned (.int .i64 (lowD d p 2 : Nat)) ∧ ∃ k, w' = w.drewN k := by
  obtain ⟨bk, of, rfl, hlt, hcl⟩ := hB (by omega)
  have h0 := hcl p (by omega)
  have h1 := hcl (p + 1) (by omega)
  have b0 := hd p
  have b1 := hd (p + 1)
  obtain ⟨x, hx⟩ : ∃ x, x = d p := ⟨_, rfl⟩
  obtain ⟨y, hy⟩ : ∃ y, y = d (p + 1) := ⟨_, rfl⟩
  have hv : lowD d p 2 = x + 256 * y := by rw [hx, hy]; simp [lowD]
  rw [hv]
  rw [← hx] at h0 b0
  rw [← hy] at h1 b1
  have ho := or256 x y b0 (by omega)
  have ho2 : bits .or .i64 (x : Int) (256 * (y : Int)) = (x : Int) + 256 * (y : Int) := by rw [show (256 : Int) * (y : Int) = (y : Int) * 256 by omega, ho]; omega
  have i0 : (0 : Int) ≤ (p : Int) := by omega
  have i1 : (p : Int) < (m : Int) := by omega
  have i2 : (0 : Int) ≤ (p : Int) + 1 := by omega
  have i3 : (p : Int) + 1 < (m : Int) := by omega
  have i4 : ((p : Int) + 1).toNat = p + 1 := by omega
  have i5 : p < m := by omega
  have i6 : IntKind.i64.wrap ((p : Int) + 1) = (p : Int) + 1 := IntWalk.i64_in _ (by omega)
  have i7 : IntKind.i64.wrap (x : Int) = (x : Int) := IntWalk.i64_in _ (by omega)
  have i8 : IntKind.i64.wrap (y : Int) = (y : Int) := IntWalk.i64_in _ (by omega)
  have i9 : IntKind.i64.wrap ((y : Int) * 256) = (y : Int) * 256 := IntWalk.i64_in _ (by omega)
  clear hcl hB hd hx hy hv
  go_enter Tryd.func51, Tryd.ntmps51
  go_wp2_with fail
  go_quiet (fail)
  go_wp2
  go_ret
  exact ⟨by simp, nq, rfl⟩
theorem or65536 (x y : Nat) (hx : x < 65536) (hy : y < 65536) : bits .or .i64 (x : Int) ((y : Int) * 65536) = (x : Int) + 65536 * (y : Int) := by
  have h2 := i64_or_nat x (65536 * y) (by omega) (by omega)
  have h3 : x ||| 65536 * y = x + 65536 * y := by
    have h := Nat.shiftLeft_add_eq_or_of_lt (i := 16) (show x < 2 ^ 16 by omega) y
    rw [Nat.shiftLeft_eq, show (2 : Nat) ^ 16 = 65536 from rfl] at h
    rw [Nat.or_comm, Nat.mul_comm, ← h]
    omega
  rw [h3, Int.natCast_mul, show ((65536 : Nat) : Int) = 65536 from rfl] at h2
  rw [Int.mul_comm, h2]
  omega
theorem lowD_24 {d : Nat → Nat} (p : Nat) : lowD d p 4 = lowD d p 2 + 65536 * lowD d (p + 2) 2 := by
  simp only [lowD, Nat.add_assoc, Nat.mul_zero, Nat.add_zero, Nat.reduceAdd]
  omega
set_option maxRecDepth 100000 in
set_option maxHeartbeats 1000000 in
theorem four_b (g p m cap : Nat) (A : Option Addr) (d : Nat → Nat) (hd : ∀ i, d i < 256) (hp : p + 4 ≤ m) (hm : m ≤ 262144) (w : World) (hg : w.cell? ⟨g, 0, none⟩ = some (.slice A m cap)) (hB : Byt w A m d) :
    Calls Tryd.prog 49 #[.pointer (some ⟨g, 0, none⟩), .int .i64 (p : Nat)] w fun e w' => e = .returned (.int .i64 (lowD d p 4 : Nat)) ∧ ∃ k, w' = w.drewN k := by
  have HD := Lib.hid hd
  have HB := Lib.hid hB
  rw [lowD_24]
  have b0 := lowD_lt hd p 2
  have b1 := lowD_lt hd (p + 2) 2
  have hT1 := two_b g p m cap A d hd (by omega) hm w hg hB
  have hT2 := fun k => two_b g (p + 2) m cap A d hd (by omega) hm (w.drewN k) hg (hB.below (below_drewN (Below.refl _ w) k))
  obtain ⟨x, hx⟩ : ∃ x, x = lowD d p 2 := ⟨_, rfl⟩
  obtain ⟨y, hy⟩ : ∃ y, y = lowD d (p + 2) 2 := ⟨_, rfl⟩
  rw [← hx] at b0 hT1 ⊢
  rw [← hy] at b1 hT2 ⊢
  rw [show (256 : Nat) ^ 2 = 65536 from rfl] at b0 b1
  have ho := or65536 x y b0 b1
  have e2 : ((p + 2 : Nat) : Int) = (p : Int) + 2 := by omega
  rw [e2] at hT2
  have HT1 := Lib.hid hT1
  have HT2 := Lib.hid hT2
  clear hT1 hT2 hd hB hx hy
  go_enter Tryd.func49, Tryd.ntmps49
  go_wp2_with fail
  refine HT1.out.mono ?_
  rintro e w1 ⟨rfl, k, rfl⟩
  go_wp2_with fail
  refine (HT2.out k).mono ?_
  rintro e w2 ⟨rfl, k2, rfl⟩
  go_wp2_with fail
  go_ret
  exact ⟨by simp, k + k2, rfl⟩
theorem signed_b (g p m cap : Nat) (A : Option Addr) (d : Nat → Nat) (hd : ∀ i, d i < 256) (hp : p + 4 ≤ m) (hm : m ≤ 262144) (w : World) (hg : w.cell? ⟨g, 0, none⟩ = some (.slice A m cap)) (hB : Byt w A m d) :
    Calls Tryd.prog 50 #[.pointer (some ⟨g, 0, none⟩), .int .i64 (p : Nat)] w fun e w' => e = .returned (.int .i64 (sgnV (lowD d p 4))) ∧ ∃ k, w' = w.drewN k := by
  have h4 := lowD_4 hd p 4 (by omega)
  have hF := Lib.hid (four_b g p m cap A d hd hp hm w hg hB)
  go_enter Tryd.func50, Tryd.ntmps50
  go_wp2_with fail
  refine hF.out.mono ?_
  rintro e _ ⟨rfl, k, rfl⟩
  have e2 : wrap64 (wrap32 ((lowD d p 4 : Nat) : Int)) = sgnV (lowD d p 4) := by
    obtain ⟨x, hx⟩ : ∃ x, x = lowD d p 4 := ⟨_, rfl⟩
    rw [← hx]
    rw [← hx] at h4
    unfold wrap32 sgnV
    rw [IntWalk.wrap64_in _ (by omega)]
    split <;> omega
  obtain ⟨x, hx⟩ : ∃ x, x = lowD d p 4 := ⟨_, rfl⟩
  go_wp2_with fail
  go_ret
  exact ⟨by rw [← e2]; rfl, k, rfl⟩
set_option maxRecDepth 100000 in
set_option maxHeartbeats 1000000 in
theorem back_b (n cz : Nat) (c : Nat → Nat) (hct : ∀ i, c i < 256) (Z : Option Addr) (w : World) (hn : 3 ≤ n) (hB : Byt w Z n c) :
    Calls Tryd.prog 55 #[.slice Z n cz] w fun e w' => e = .returned (.agg #[.int .u16 ((c 2 * 257 : Nat) : Int), .int .u16 ((c 1 * 257 : Nat) : Int), .int .u16 ((c 0 * 257 : Nat) : Int), .int .u16 65535]) ∧ Below w.heap.size w w' := by
  obtain ⟨bk, of, rfl, hlt, hcl⟩ := hB (by omega)
  have hBa := (Below.refl _ w).alloc (Nat.le_refl _) (.cells #[.int .u16 0, .int .u16 0, .int .u16 0, .int .u16 0] 45)
  have hX := hp_new0 w (.cells #[.int .u16 0, .int .u16 0, .int .u16 0, .int .u16 0] 45)
  have hcw : ∀ j, j < n → (w.alloc (.cells #[.int .u16 0, .int .u16 0, .int .u16 0, .int .u16 0] 45)).cell? ⟨bk, of + j, none⟩ = some (.int .u8 (c j : Nat)) := fun j hj => (hBa.cell (p := ⟨bk, of + j, none⟩) hlt).trans (hcl j hj)
  have c0 := hcw 0 (by omega)
  have c1 := hcw 1 (by omega)
  have c2 := hcw 2 (by omega)
  rw [Nat.add_zero] at c0
  have hb0 := hct 0
  have hb1 := hct 1
  have hb2 := hct 2
  obtain ⟨x, hx⟩ : ∃ x, x = c 0 := ⟨_, rfl⟩
  obtain ⟨y, hy⟩ : ∃ x, x = c 1 := ⟨_, rfl⟩
  obtain ⟨z, hz⟩ : ∃ x, x = c 2 := ⟨_, rfl⟩
  rw [← hx] at c0 hb0 ⊢
  rw [← hy] at c1 hb1 ⊢
  rw [← hz] at c2 hb2 ⊢
  have HB := Lib.hid hBa
  have HX := Lib.hid hX
  clear hx hy hz hcw hcl hB hBa hX hct
  have n0 : (0 : Int) < (n : Int) := by omega
  have n1 : (1 : Int) < (n : Int) := by omega
  have n2 : (2 : Int) < (n : Int) := by omega
  have n3 : 0 < n := by omega
  have n4 : 1 < n := by omega
  have n5 : 2 < n := by omega
  go_enter Tryd.func55, Tryd.ntmps55
  go_upto_region 1 with fail
  generalize w.alloc (.cells #[.int .u16 0, .int .u16 0, .int .u16 0, .int .u16 0] 45) = w1 at *
  go_still_tail 13, (by kernel_rfl)
  still_call (sample_b z hb2 _)
  repeat still_step
  still_call (sample_b y hb1 _)
  repeat still_step
  still_call (sample_b x hb0 _)
  repeat still_step
  try refine wpStill_nil ?_
  change wpList _ _ _ _ _ w1.drew
  have hX1 : w1.drew.heap[w.heap.size]? = some (.cells #[.int .u16 0, .int .u16 0, .int .u16 0, .int .u16 0] 45 (0, 0)) := HX.out
  have p0 := hp_cell (j := 0) hX1 rfl
  have p1 := hp_cell (j := 1) hX1 rfl
  have p2 := hp_cell (j := 2) hX1 rfl
  have p3 := hp_cell (j := 3) hX1 rfl
  have pf := hp_froz hX1
  have p0' := hp_cell (j := 0) HX.out rfl
  have p1' := hp_cell (j := 1) HX.out rfl
  have p2' := hp_cell (j := 2) HX.out rfl
  have p3' := hp_cell (j := 3) HX.out rfl
  have pf' := hp_froz HX.out
  clear hX1
  go_wp2
  refine bodyPost_ret (v := .agg #[.int .u16 ((z : Int) * 257), .int .u16 ((y : Int) * 257), .int .u16 ((x : Int) * 257), .int .u16 65535]) (by rw [results_cell1 rfl]; go_simp) rfl ?_
  exact ⟨by simp, ((((HB.out.drew).setCell (p := ⟨w.heap.size, 0, none⟩) (Nat.le_refl _) _).setCell (p := ⟨w.heap.size, 1, none⟩) (Nat.le_refl _) _).setCell (p := ⟨w.heap.size, 2, none⟩) (Nat.le_refl _) _).setCell (p := ⟨w.heap.size, 3, none⟩) (Nat.le_refl _) _⟩
end Go.Proofs.YthgafdbdmemkhaaDoor

namespace Go.Proofs.YthgafdbdmemkhaaDoor
set_option maxRecDepth 100000
set_option linter.unusedVariables false
open Go.ChangeShapes Go.WideShapes Go.ChangeAt Go.RowKit

theorem fine_no {bits kind : Nat} {h : Int} (h1 : bits ≠ 1) (h2 : bits ≠ 4) (h3 : bits ≠ 8) (h4 : bits ≠ 16) (h5 : bits ≠ 24) (h6 : bits ≠ 32) : bmFine bits kind h = false := decide_eq_false fun ⟨q, _⟩ => by omega
theorem fine_1 {bits kind : Nat} {h : Int} (hb : bits = 1 ∨ bits = 24) : bmFine bits kind h = decide (kind = 0) := by
  unfold bmFine
  refine decide_eq_decide.2 ⟨fun ⟨_, q1, q2, q3, q4⟩ => ?_, fun e => ⟨by omega, by omega, by omega, by omega, by omega⟩⟩
  by_cases e1 : kind = 1
  · have := q2 e1; omega
  by_cases e2 : kind = 2
  · have := q3 e2; omega
  by_cases e3 : kind = 3
  · have := q4 e3; omega
  omega
theorem fine_4 {kind : Nat} {h : Int} : bmFine 4 kind h = decide (kind = 0 ∨ kind = 2 ∧ ¬ h < 0) := by
  unfold bmFine
  refine decide_eq_decide.2 ⟨fun ⟨_, q1, q2, q3, q4⟩ => ?_, fun e => ⟨by omega, by omega, by omega, by omega, by omega⟩⟩
  by_cases e1 : kind = 1
  · have := q2 e1; omega
  by_cases e2 : kind = 2
  · have := q3 e2; omega
  by_cases e3 : kind = 3
  · have := q4 e3; omega
  omega
theorem fine_8 {kind : Nat} {h : Int} : bmFine 8 kind h = decide (kind = 0 ∨ kind = 1 ∧ ¬ h < 0) := by
  unfold bmFine
  refine decide_eq_decide.2 ⟨fun ⟨_, q1, q2, q3, q4⟩ => ?_, fun e => ⟨by omega, by omega, by omega, by omega, by omega⟩⟩
  by_cases e1 : kind = 1
  · have := q2 e1; omega
  by_cases e2 : kind = 2
  · have := q3 e2; omega
  by_cases e3 : kind = 3
  · have := q4 e3; omega
  omega
theorem fine_16 {bits kind : Nat} {h : Int} (hb : bits = 16 ∨ bits = 32) : bmFine bits kind h = decide (kind = 0 ∨ kind = 3) := by
  unfold bmFine
  refine decide_eq_decide.2 ⟨fun ⟨_, q1, q2, q3, q4⟩ => ?_, fun e => ⟨by omega, by omega, by omega, by omega, by omega⟩⟩
  by_cases e1 : kind = 1
  · have := q2 e1; omega
  by_cases e2 : kind = 2
  · have := q3 e2; omega
  omega
theorem eqn_t {a b : Nat} (h : a = b) : ((a : Int) == (b : Int)) = true := by rw [h]; simp
theorem eqn_f {a b : Nat} (h : a ≠ b) : ((a : Int) == (b : Int)) = false := beq_eq_false_iff_ne.2 (by omega)
set_option maxRecDepth 100000 in
set_option maxHeartbeats 2000000 in
theorem may_b (g bits kind : Nat) (h : Int) (w : World) (c5 : w.cell? ⟨g, 5, none⟩ = some (.bool (decide (h < 0)))) (c6 : w.cell? ⟨g, 6, none⟩ = some (.int .i64 (bits : Nat))) (c7 : w.cell? ⟨g, 7, none⟩ = some (.int .i64 (kind : Nat))) :
    Calls Tryd.prog 52 #[.pointer (some ⟨g, 0, none⟩)] w fun e w' => e = .returned (.bool (bmFine bits kind h)) ∧ w' = w := by
  by_cases h1 : bits = 1 ∨ bits = 24
  · have F := Lib.hid (fine_1 (kind := kind) (h := h) h1)
    by_cases k0 : kind = 0
    · have z0 : ((kind : Int) == 0) = true := eqn_t (b := 0) k0
      have F2 : Hid (bmFine bits kind h = true) := Lib.hid (by rw [F.out, k0]; rfl)
      clear F k0
      rcases h1 with rfl | rfl
      all_goals
        go_enter Tryd.func52, Tryd.ntmps52
        go_wp2
        go_ret
        rw [F2.out]
        exact ⟨rfl, rfl⟩
    · have z0 : ((kind : Int) == 0) = false := eqn_f (b := 0) k0
      have F2 : Hid (bmFine bits kind h = false) := Lib.hid (by rw [F.out]; exact decide_eq_false k0)
      clear F k0
      rcases h1 with rfl | rfl
      all_goals
        go_enter Tryd.func52, Tryd.ntmps52
        go_wp2
        go_ret
        rw [F2.out]
        exact ⟨rfl, rfl⟩
  by_cases h2 : bits = 16 ∨ bits = 32
  · have F := Lib.hid (fine_16 (kind := kind) (h := h) h2)
    have key : ∃ x y : Bool, ((kind : Int) == 0) = x ∧ ((kind : Int) == 3) = y ∧ bmFine bits kind h = (x || y) := ⟨_, _, rfl, rfl, by
      rw [F.out, Bool.eq_iff_iff]
      simp
      omega⟩
    obtain ⟨x, y, z0, z3, hf⟩ := key
    have F2 := Lib.hid hf
    clear F hf
    rcases h2 with rfl | rfl
    all_goals
      cases x <;> cases y
      all_goals
        go_enter Tryd.func52, Tryd.ntmps52
        go_wp2
        go_ret
        rw [F2.out]
        exact ⟨rfl, rfl⟩
  by_cases h3 : bits = 4 ∨ bits = 8
  · obtain ⟨q, hq, hf⟩ : ∃ q : Nat, ((bits = 4 ∧ q = 2) ∨ (bits = 8 ∧ q = 1)) ∧ bmFine bits kind h = decide (kind = 0 ∨ kind = q ∧ ¬ h < 0) := by
      rcases h3 with rfl | rfl
      · exact ⟨2, .inl ⟨rfl, rfl⟩, fine_4⟩
      · exact ⟨1, .inr ⟨rfl, rfl⟩, fine_8⟩
    have key : ∃ x y z : Bool, ((kind : Int) == 0) = x ∧ ((kind : Int) == (q : Int)) = y ∧ decide (h < 0) = z ∧ bmFine bits kind h = (x || (y && !z)) := ⟨_, _, _, rfl, rfl, rfl, by
      rw [hf, Bool.eq_iff_iff]
      simp
      omega⟩
    obtain ⟨x, y, z, z0, z3, z5, hf2⟩ := key
    rw [z5] at c5
    have F2 := Lib.hid hf2
    clear hf hf2 z5 h3
    rcases hq with ⟨rfl, rfl⟩ | ⟨rfl, rfl⟩
    · have z3' : ((kind : Int) == 2) = y := z3
      clear z3
      cases x <;> cases y <;> cases z
      all_goals
        go_enter Tryd.func52, Tryd.ntmps52
        go_wp2
        go_ret
        rw [F2.out]
        exact ⟨rfl, rfl⟩
    · have z3' : ((kind : Int) == 1) = y := z3
      clear z3
      cases x <;> cases y <;> cases z
      all_goals
        go_enter Tryd.func52, Tryd.ntmps52
        go_wp2
        go_ret
        rw [F2.out]
        exact ⟨rfl, rfl⟩
  have F2 := Lib.hid (fine_no (kind := kind) (h := h) (show bits ≠ 1 by omega) (show bits ≠ 4 by omega) (show bits ≠ 8 by omega) (show bits ≠ 16 by omega) (show bits ≠ 24 by omega) (show bits ≠ 32 by omega))
  have z1 : ((bits : Int) == 1) = false := eqn_f (b := 1) (by omega)
  have z2 : ((bits : Int) == 24) = false := eqn_f (b := 24) (by omega)
  have z3 : ((bits : Int) == 4) = false := eqn_f (b := 4) (by omega)
  have z4 : ((bits : Int) == 8) = false := eqn_f (b := 8) (by omega)
  have z5 : ((bits : Int) == 16) = false := eqn_f (b := 16) (by omega)
  have z6 : ((bits : Int) == 32) = false := eqn_f (b := 32) (by omega)
  clear h1 h2 h3
  go_enter Tryd.func52, Tryd.ntmps52
  go_wp2
  go_ret
  rw [F2.out]
  exact ⟨rfl, rfl⟩
end Go.Proofs.YthgafdbdmemkhaaDoor

namespace Go.Proofs.YthgafdbdmemkhaaDoor
set_option maxRecDepth 100000
set_option linter.unusedVariables false
open Go.ChangeShapes Go.WideShapes Go.ChangeAt Go.RowKit

set_option maxRecDepth 100000 in
set_option maxHeartbeats 1000000 in
theorem part_b (v m : Nat) (hv : v < 4294967296) (hm : m < 4294967296) (w : World) (hT : TabW w) :
    Calls Tryd.prog 72 #[.int .u32 (v : Nat), .int .u32 (m : Nat)] w fun e w' => e = .returned (.int .u16 (prtV v m)) ∧ ∃ k, w' = w.drewN k := by
  have hR := Lib.hid (run_prog m hm w hT)
  have hand := u32_and_nat v m hv hm
  obtain ⟨r, hr⟩ : ∃ r, r = runM m := ⟨_, rfl⟩
  have hpv : prtV v m = if r.2.2 = true then maskV ((v / 2 ^ r.1 % 2 ^ r.2.1 : Nat) : Int) (r.2.1 : Nat) else 65535 := by rw [prtV, ← hr]
  rw [hpv]
  rw [← hr] at hR
  obtain ⟨a, n, ok⟩ := r
  dsimp only at hR ⊢
  cases ok with
  | false =>
    clear hr hpv hand
    go_enter Tryd.func72, Tryd.ntmps72
    go_wp2_with fail
    refine hR.out.mono ?_
    rintro e w1 ⟨rfl, k, rfl⟩
    go_wp2
    go_ret
    exact ⟨rfl, k, rfl⟩
  | true =>
    have hq := and_run v hr.symm
    obtain ⟨hmv, ha, hn⟩ := run_val hr.symm
    clear hmv
    obtain ⟨z, hz⟩ : ∃ z, z = v &&& m := ⟨_, rfl⟩
    rw [← hz] at hq hand
    have hz32 : z < 4294967296 := by rw [hz]; exact Nat.and_lt_two_pow (n := 32) _ hm
    have hcv : (z : Int) / 2 ^ a = ((v / 2 ^ a % 2 ^ n : Nat) : Int) := by rw [← hq, Int.natCast_ediv, Int.natCast_pow]; rfl
    obtain ⟨y, hy⟩ : ∃ y, y = v / 2 ^ a % 2 ^ n := ⟨_, rfl⟩
    rw [← hy] at hcv hq ⊢
    have hy32 : y < 4294967296 := by rw [← hq]; exact Nat.lt_of_le_of_lt (Nat.div_le_self _ _) hz32
    clear hr hpv hz hq hy
    go_enter Tryd.func72, Tryd.ntmps72
    go_wp2_with fail
    refine hR.out.mono ?_
    rintro e w1 ⟨rfl, k, rfl⟩
    go_wp2_with fail
    with_reducible refine (mask11 (y : Nat) (n : Nat) (by omega) (by omega) _).mono ?_
    rintro e w2 ⟨rfl, rfl⟩
    go_wp2
    go_ret
    exact ⟨rfl, k, rfl⟩
theorem idx4_0 (F0 F1 F2 F3 : Int) (W : World) : (Instr.index 55 (.agg #[.int .u32 F0, .int .u32 F1, .int .u32 F2, .int .u32 F3]) (.int .i64 0)).run Tryd.prog W = .ok (.int .u32 F0) W := by kernel_rfl
theorem idx4_1 (F0 F1 F2 F3 : Int) (W : World) : (Instr.index 55 (.agg #[.int .u32 F0, .int .u32 F1, .int .u32 F2, .int .u32 F3]) (.int .i64 1)).run Tryd.prog W = .ok (.int .u32 F1) W := by kernel_rfl
theorem idx4_2 (F0 F1 F2 F3 : Int) (W : World) : (Instr.index 55 (.agg #[.int .u32 F0, .int .u32 F1, .int .u32 F2, .int .u32 F3]) (.int .i64 2)).run Tryd.prog W = .ok (.int .u32 F2) W := by kernel_rfl
theorem idx4_3 (F0 F1 F2 F3 : Int) (W : World) : (Instr.index 55 (.agg #[.int .u32 F0, .int .u32 F1, .int .u32 F2, .int .u32 F3]) (.int .i64 3)).run Tryd.prog W = .ok (.int .u32 F3) W := by kernel_rfl
theorem idx4 (F0 F1 F2 F3 i x : Nat) (hi : i < 4) (h : (#[Value.int .u32 (F0 : Nat), .int .u32 (F1 : Nat), .int .u32 (F2 : Nat), .int .u32 (F3 : Nat)] : Array Value)[i]? = some (.int .u32 (x : Nat))) (W : World) :
    (Instr.index 55 (.agg #[.int .u32 (F0 : Nat), .int .u32 (F1 : Nat), .int .u32 (F2 : Nat), .int .u32 (F3 : Nat)]) (.int .i64 (i : Nat))).run Tryd.prog W = .ok (.int .u32 (x : Nat)) W := by
  have k : i = 0 ∨ i = 1 ∨ i = 2 ∨ i = 3 := by omega
  rcases k with rfl | rfl | rfl | rfl
  · have h2 : (F0 : Int) = (x : Int) := by simpa using h
    obtain rfl : F0 = x := by omega
    exact idx4_0 _ _ _ _ W
  · have h2 : (F1 : Int) = (x : Int) := by simpa using h
    obtain rfl : F1 = x := by omega
    exact idx4_1 _ _ _ _ W
  · have h2 : (F2 : Int) = (x : Int) := by simpa using h
    obtain rfl : F2 = x := by omega
    exact idx4_2 _ _ _ _ W
  · have h2 : (F3 : Int) = (x : Int) := by simpa using h
    obtain rfl : F3 = x := by omega
    exact idx4_3 _ _ _ _ W
theorem runM_zero : runM 0 = (0, 0, false) := rfl
set_option maxRecDepth 100000 in
set_option maxHeartbeats 4000000 in
theorem check_b (g bits : Nat) (hb : bits = 16 ∨ bits = 32) (f : Nat → Nat) (hf : ∀ i, f i < 4294967296) (w : World) (hT : TabW w) (c6 : w.cell? ⟨g, 6, none⟩ = some (.int .i64 (bits : Nat)))
    (c9 : w.cell? ⟨g, 9, none⟩ = some (.int .u32 (f 0 : Nat))) (c10 : w.cell? ⟨g, 10, none⟩ = some (.int .u32 (f 1 : Nat))) (c11 : w.cell? ⟨g, 11, none⟩ = some (.int .u32 (f 2 : Nat))) (c12 : w.cell? ⟨g, 12, none⟩ = some (.int .u32 (f 3 : Nat))) :
    Calls Tryd.prog 54 #[.pointer (some ⟨g, 0, none⟩)] w fun e w' => e = .returned (.bool (masksB f bits)) ∧ ∃ k, w' = w.drewN k := by
  have HF := Lib.hid hf
  have HT := Lib.hid hT
  have HC6 := Lib.hid c6
  obtain ⟨F0, h0⟩ : ∃ F0, F0 = f 0 := ⟨_, rfl⟩
  obtain ⟨F1, h1⟩ : ∃ F1, F1 = f 1 := ⟨_, rfl⟩
  obtain ⟨F2, h2⟩ : ∃ F2, F2 = f 2 := ⟨_, rfl⟩
  obtain ⟨F3, h3⟩ : ∃ F3, F3 = f 3 := ⟨_, rfl⟩
  rw [← h0] at c9
  rw [← h1] at c10
  rw [← h2] at c11
  rw [← h3] at c12
  have HE := Lib.hid (And.intro (And.intro h0 h1) (And.intro h2 h3))
  clear hf hT h0 h1 h2 h3 c6
  go_enter Tryd.func54, Tryd.ntmps54
  go_wp2_with fail
  clear c9 c10 c11 c12
  go_loopw [3, 13] (fun s x wr => ∃ i : Nat, i ≤ 4 ∧ x = .int .i64 (i : Nat) ∧ s = .int .u32 (seenF f i : Nat) ∧ (∀ j, j < i → msOk f bits j = true) ∧ ∃ k, wr = w.drewN k) (fun _ x _ => 4 - (intOf x).toNat)
  case atStart => exact ⟨0, by omega, rfl, rfl, fun j h => absurd h (by omega), 0, rfl⟩
  case round =>
    obtain ⟨i, hi4, rfl, rfl, hall, k, rfl⟩ := hrel
    have HA := Lib.hid hall
    clear hall
    by_cases hlt : i < 4
    · obtain ⟨x, hx⟩ : ∃ x, x = f i := ⟨_, rfl⟩
      have hcf : (#[Value.int .u32 (F0 : Nat), .int .u32 (F1 : Nat), .int .u32 (F2 : Nat), .int .u32 (F3 : Nat)] : Array Value)[i]? = some (.int .u32 (x : Nat)) := by
        obtain ⟨⟨q0, q1⟩, q2, q3⟩ := HE.out
        have h : i = 0 ∨ i = 1 ∨ i = 2 ∨ i = 3 := by omega
        rcases h with rfl | rfl | rfl | rfl <;> rw [hx]
        · rw [← q0]; rfl
        · rw [← q1]; rfl
        · rw [← q2]; rfl
        · rw [← q3]; rfl
      have hx32 : x < 4294967296 := by rw [hx]; exact HF.out i
      have hs32 := seenF_lt HF.out i
      have hsn : seenF f (i + 1) = seenF f i ||| x := by rw [seenF, hx]
      have hor := u32_or_nat (seenF f i) x hs32 (by omega)
      rw [← hsn] at hor
      have hms : msOk f bits i = ((decide (x = 0) && decide (i = 3)) || ((runM x).2.2 && decide ((runM x).2.1 ≤ 8) && decide (x &&& seenF f i = 0) && decide ((runM x).1 + (runM x).2.1 ≤ bits))) := by rw [msOk, ← hx]
      have hand := u32_and_nat x (seenF f i) hx32 hs32
      obtain ⟨an, han⟩ : ∃ an, an = x &&& seenF f i := ⟨_, rfl⟩
      rw [← han] at hand hms
      obtain ⟨sn, hsn2⟩ : ∃ sn, sn = seenF f i := ⟨_, rfl⟩
      rw [← hsn2] at hand hor ⊢
      have HMS := Lib.hid hms
      have HSN := Lib.hid hsn
      have HSE := Lib.hid hsn2.symm
      have hix := idx4 F0 F1 F2 F3 i x hlt hcf
      clear hx hms hsn han hsn2 hs32
      go_wp2_with fail
      refine (run_prog x hx32 _ (HT.out.drewN k)).mono ?_
      rintro e w2 ⟨rfl, k2, rfl⟩
      obtain ⟨wr, hwr⟩ : ∃ wr, wr = (w.drewN k).drewN k2 := ⟨_, rfl⟩
      have HW : Hid (∃ k, wr = w.drewN k) := Lib.hid ⟨k + k2, hwr.trans (World.drewN_drewN _ _ _)⟩
      have c6 : wr.cell? ⟨g, 6, none⟩ = some (.int .i64 (bits : Nat)) := by rw [hwr]; exact HC6.out
      rw [← hwr]
      clear hwr
      by_cases hz : x = 0 ∧ i = 3
      · obtain ⟨rfl, h3⟩ := hz
        have hi3 : ((i : Int) == 3) = true := by rw [h3]; rfl
        have HSN2 : Hid (seenF f (i + 1) = sn) := Lib.hid (by rw [HSN.out, Nat.or_zero, HSE.out])
        have HAL := Lib.hid (all_snoc (p := fun j => msOk f bits j = true) HA.out (by show msOk f bits i = true; rw [HMS.out, h3]; rfl))
        rw [runM_zero]
        clear h3 hor hand hcf hix
        go_wp2_with fail
        go_roundw
        case rel => exact ⟨i + 1, hlt, by go_num, by rw [HSN2.out], HAL.out, HW.out⟩
        case measure => simp [intOf]; omega
      have hmz : (decide (x = 0) && decide (i = 3)) = false := by simpa using hz
      rw [hmz, Bool.false_or] at HMS
      have hz2 : (((x : Int) == 0) = false) ∨ (((x : Int) == 0) = true ∧ ((i : Int) == 3) = false) := by
        by_cases h : x = 0
        · exact .inr ⟨by rw [h]; rfl, beq_eq_false_iff_ne.2 (fun e => hz ⟨h, by omega⟩)⟩
        · exact .inl (beq_eq_false_iff_ne.2 (by omega))
      obtain ⟨r, hr⟩ : ∃ r, r = runM x := ⟨_, rfl⟩
      have hrl := runM_le x
      have hsum : r.2.2 = true → x ≠ 0 ∧ ((x < 65536 ↔ r.1 + r.2.1 ≤ 16) ∧ r.1 + r.2.1 ≤ 32) := fun hok => by
        have e : runM x = (r.1, r.2.1, true) := by rw [← hr, ← hok]
        have hx0 : x ≠ 0 := fun e0 => by subst e0; rw [runM_zero] at hr; rw [hr] at hok; cases hok
        exact ⟨hx0, run_sum e hx0 16, (run_sum e hx0 32).1 hx32⟩
      rw [← hr] at hrl HMS ⊢
      obtain ⟨at_, n, ok⟩ := r
      simp only at hrl HMS hsum ⊢
      clear hr hmz hcf hix
      cases ok with
      | false =>
        have HMF := Lib.hid (masksB_f hlt HMS.out)
        clear hor hand hz hsum
        rcases hz2 with h0 | ⟨h0, h3⟩
        all_goals
          go_wp2_with fail
          go_ret
          exact ⟨ret_b HMF.out.symm, HW.out⟩
      | true =>
        obtain ⟨hx0, h16, h32⟩ := hsum rfl
        have h0 : ((x : Int) == 0) = false := beq_eq_false_iff_ne.2 (by omega)
        clear hz2 hz hsum
        by_cases hn8 : n ≤ 8
        · have hn8b : decide (8 < (n : Int)) = false := by simp; omega
          by_cases ha0 : an = 0
          · subst ha0
            rcases hb with rfl | rfl
            · by_cases hbb : at_ + n ≤ 16
              · have hbb2 : decide ((65535 : Int) < (x : Int)) = false := by simp; omega
                have HAL := Lib.hid (all_snoc (p := fun j => msOk f 16 j = true) HA.out (by show msOk f 16 i = true; rw [HMS.out]; simp [hn8, hbb]))
                clear h16 h32
                go_wp2_with fail
                go_roundw
                case rel => exact ⟨i + 1, hlt, by go_num, rfl, HAL.out, HW.out⟩
                case measure => simp [intOf]; omega
              · have HMF := Lib.hid (masksB_f hlt (HMS.out.trans (by simp [hbb])))
                have hbb2 : decide ((65535 : Int) < (x : Int)) = true := by simp; omega
                clear hor h16 h32
                go_wp2_with fail
                go_ret
                exact ⟨ret_b HMF.out.symm, HW.out⟩
            · have HAL := Lib.hid (all_snoc (p := fun j => msOk f 32 j = true) HA.out (by show msOk f 32 i = true; rw [HMS.out]; simp [hn8, h32]))
              clear h16 h32
              go_wp2_with fail
              go_roundw
              case rel => exact ⟨i + 1, hlt, by go_num, rfl, HAL.out, HW.out⟩
              case measure => simp [intOf]; omega
          · have HMF := Lib.hid (masksB_f hlt (HMS.out.trans (by simp [ha0])))
            have ha1 : decide ((0 : Int) < (an : Int)) = true := by simp; omega
            clear hor h16 h32
            go_wp2_with fail
            go_ret
            exact ⟨ret_b HMF.out.symm, HW.out⟩
        · have HMF := Lib.hid (masksB_f hlt (HMS.out.trans (by simp [hn8])))
          have hn8b : decide (8 < (n : Int)) = true := by simp; omega
          clear hor hand h16 h32
          go_wp2_with fail
          go_ret
          exact ⟨ret_b HMF.out.symm, HW.out⟩
    · have HMT : Hid (masksB f bits = true) := Lib.hid (by rw [masksB, List.all_eq_true]; exact fun j hj => HA.out j (by have := List.mem_range.1 hj; omega))
      go_wp2_with fail
      go_ret
      exact ⟨ret_b HMT.out.symm, k, rfl⟩
end Go.Proofs.YthgafdbdmemkhaaDoor
