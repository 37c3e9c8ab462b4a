/- engraverref14's small ones: low, signed, Run, masks, byMasks. Rows of bytes as strings. bits.Guard, by the closure's contract; worlds that turn in few blocks. Worlds that turn in few blocks; rows of bytes; a reader of bits lies in memory. The runs of the bit operations on numbers that are not below 0. Bits taken from a reader, from either end. The reference's reader of bits. engraverlaw14.Same. A picture of one's own: samples set one by one. -/
import Derived.Test.YtdooefnckdklmaaDoorM3
import Derived.Laws.BitsAllLaws
import Derived.IntWalk
import Derived.Laws.BytesArg
import Derived.Test.YtdooefnckdklmaaDoorProg
import Derived.Defers
import Derived.Recover
import Derived.WalkLawsBesides
import Derived.Test.YtdooefnckdklmaaDoorRows
import Derived.WalkKit
import Derived.ProofKit
import Derived.OpenShut
import Derived.WalkSpells
import Derived.Outline
import Derived.Lib.Hide
import Derived.Deep.QuietTactic
import Derived.BigQuiet
import Derived.Laws.Bits128
namespace Go.Proofs.YtdooefnckdklmaaDoor
set_option maxRecDepth 100000
set_option linter.unusedVariables false
open Go.ChangeShapes Go.WideShapes Go.ChangeAt Go.RowKit

theorem i64_or_nat (a b : Nat) (ha : a < 9223372036854775808) (hb : b < 9223372036854775808) : bits .or .i64 (a : Int) (b : Int) = ((a ||| b : Nat) : Int) := by
  have hx : a ||| b < 2 ^ 63 := Nat.or_lt_two_pow (by omega) (by omega)
  show IntKind.i64.wrap ((BitVec.ofInt 64 (a : Int) ||| BitVec.ofInt 64 (b : Int)).toNat : Int) = _
  rw [BitVec.toNat_or, ofInt_u64 a (by omega), ofInt_u64 b (by omega)]
  exact IntWalk.i64_in _ (by omega)
theorem i64_and_nat (a b : Nat) (ha : a < 9223372036854775808) (hb : b < 9223372036854775808) : bits .and .i64 (a : Int) (b : Int) = ((a &&& b : Nat) : Int) := by
  have hx : a &&& b < 2 ^ 63 := Nat.and_lt_two_pow _ (by omega)
  show IntKind.i64.wrap ((BitVec.ofInt 64 (a : Int) &&& BitVec.ofInt 64 (b : Int)).toNat : Int) = _
  rw [BitVec.toNat_and, ofInt_u64 a (by omega), ofInt_u64 b (by omega)]
  exact IntWalk.i64_in _ (by omega)
/-- A number of so many bytes from a place on, the lowest first. -/
def lowD (d : Nat → Nat) : Nat → Nat → Nat
  | _, 0 => 0
  | p, k + 1 => d p + 256 * lowD d (p + 1) k
theorem lowD_lt {d : Nat → Nat} (hd : ∀ j, d j < 256) (p k : Nat) : lowD d p k < 256 ^ k := by
  induction k generalizing p with
  | zero => simp [lowD]
  | succ k ih =>
    have h1 := hd p
    have h2 := ih (p + 1)
    simp only [lowD, Nat.pow_succ]
    omega
theorem lowD_4 {d : Nat → Nat} (hd : ∀ j, d j < 256) (p k : Nat) (hk : k ≤ 4) : lowD d p k < 4294967296 := by
  have h := lowD_lt hd p k
  have h2 : 256 ^ k ≤ 256 ^ 4 := Nat.pow_le_pow_right (by omega) hk
  omega
theorem or_byte (x y : Nat) (hy : y < 256) : x * 256 ||| y = y + 256 * x := by
  have h := Nat.shiftLeft_add_eq_or_of_lt (i := 8) (show y < 2 ^ 8 by omega) x
  rw [Nat.shiftLeft_eq] at h
  have e : (2 : Nat) ^ 8 = 256 := rfl
  rw [e] at h
  rw [← h]
  omega
set_option maxRecDepth 100000 in
set_option maxHeartbeats 1000000 in
theorem low_ref (A : Option Addr) (m cap : Nat) (d : Nat → Nat) (hd : ∀ j, d j < 256) (p n : Nat) (hn : n ≤ 4) (hp : p + n ≤ m) (hm : m ≤ cap) (hcap : cap ≤ maxLen) (w : World) (hB : Byt w A m d) :
    Calls Tryd.prog 29 #[.slice A m cap, .int .i64 p, .int .i64 n] w fun e w' => e = .returned (.int .i64 (lowD d p n : Nat)) ∧ w' = w := by
  unfold maxLen at hcap
  have HD := Lib.hid hd
  clear hd
  go_enter Tryd.func29, Tryd.ntmps29
  go_wp2_with fail
  go_loopw [7, 8] (fun x i wr => ∃ k : Nat, k ≤ n ∧ i = .int .i64 ((n : Int) - 1 - (k : Int)) ∧ x = .int .i64 (lowD d (p + n - k) k : Nat) ∧ wr = w) (fun _ i _ => (intOf i + 1).toNat)
  case atStart => exact ⟨0, by omega, by simp, rfl, rfl⟩
  case round =>
    obtain ⟨k, hk, rfl, rfl, rfl⟩ := hrel
    by_cases hlt : k < n
    · obtain ⟨bk, off, rfl, hbl, hcl⟩ := hB (by omega)
      obtain ⟨i, hi⟩ : ∃ i, i = n - 1 - k := ⟨_, rfl⟩
      have e1 : (n : Int) - 1 - (k : Int) = (i : Int) := by omega
      obtain ⟨q, hq⟩ : ∃ q, q = p + i := ⟨_, rfl⟩
      have e2 : (p : Int) + (i : Int) = (q : Int) := by omega
      have c0 := hcl q (by omega)
      obtain ⟨x, hx⟩ : ∃ x, x = lowD d (p + n - k) k := ⟨_, rfl⟩
      have hx4 : x < 256 ^ k := by rw [hx]; exact lowD_lt HD.out _ _
      have hx5 : 256 ^ k ≤ 256 ^ 3 := Nat.pow_le_pow_right (by omega) (by omega)
      have hd8 := HD.out q
      have e3 : lowD d (p + n - (k + 1)) (k + 1) = d q + 256 * x := by
        rw [show p + n - (k + 1) = q by omega, lowD, show q + 1 = p + n - k by omega, ← hx]
      have e4 := i64_or_nat (x * 256) (d q) (by omega) (by omega)
      rw [or_byte x (d q) hd8, show ((x * 256 : Nat) : Int) = (x : Int) * 256 by simp] at e4
      have hqm : q < m := by omega
      have HX := Lib.hid e3
      rw [e1, ← hx]
      have HE := Lib.hid e1
      have e5 : wrap64 ((x : Int) * 256) = (x : Int) * 256 := IntWalk.wrap64_in _ (by omega)
      clear hx hx4 hx5 hi hq e3
      go_wp2_with fail
      go_roundw
      case rel => exact ⟨k + 1, hlt, by have := HE.out; congr 1; omega, by rw [HX.out]; exact congrArg (Value.int .i64) (by omega), trivial⟩
      case measure => simp [intOf]
    · have HK := Lib.hid (show k = n by omega)
      have hneg : ¬ (0 : Int) ≤ (n : Int) - 1 - (k : Int) := by omega
      go_wp2_with fail
      go_ret
      exact ⟨by rw [HK.out, Nat.add_sub_cancel]; rfl, rfl⟩

/-- A number of four bytes, signed. -/
def sgnV (x : Nat) : Int := if x < 2147483648 then (x : Int) else (x : Int) - 4294967296
theorem signed_ref (A : Option Addr) (m cap : Nat) (d : Nat → Nat) (hd : ∀ j, d j < 256) (p : Nat) (hp : p + 4 ≤ m) (hm : m ≤ cap) (hcap : cap ≤ maxLen) (w : World) (hB : Byt w A m d) :
    Calls Tryd.prog 44 #[.slice A m cap, .int .i64 p] w fun e w' => e = .returned (.int .i64 (sgnV (lowD d p 4))) ∧ w' = w := by
  have h4 := lowD_4 hd p 4 (by omega)
  go_enter Tryd.func44, Tryd.ntmps44
  go_wp2_with fail
  refine (low_ref A m cap d hd p 4 (by omega) hp hm hcap _ hB).mono ?_
  rintro e _ ⟨rfl, rfl⟩
  obtain ⟨x, hx⟩ : ∃ x, x = lowD d p 4 := ⟨_, rfl⟩
  have e2 : wrap64 (wrap32 ((lowD d p 4 : Nat) : Int)) = sgnV (lowD d p 4) := by
    rw [← hx]
    rw [← hx] at h4
    unfold wrap32 sgnV
    rw [IntWalk.wrap64_in _ (by omega)]
    split <;> omega
  rw [← hx] at h4
  have e1 : IntKind.u32.wrap ((lowD d p 4 : Nat) : Int) = ((lowD d p 4 : Nat) : Int) := IntWalk.u32_in _ (by omega)
  go_wp2_with fail
  go_ret
  exact ⟨by rw [← e2]; rfl, rfl⟩
set_option maxRecDepth 100000 in
/-- How often 2 divides it; what is left. -/
def evZ : Nat → Nat → Nat × Nat
  | 0, m => (0, m)
  | k + 1, m => if m % 2 = 0 then ((evZ k (m / 2)).1 + 1, (evZ k (m / 2)).2) else (0, m)
/-- How many ones it ends in; what is left. -/
def onZ : Nat → Nat → Nat × Nat
  | 0, m => (0, m)
  | k + 1, m => if m % 2 = 1 then ((onZ k (m / 2)).1 + 1, (onZ k (m / 2)).2) else (0, m)
theorem evZ_ev {m : Nat} (k : Nat) (h : m % 2 = 0) : evZ (k + 1) m = ((evZ k (m / 2)).1 + 1, (evZ k (m / 2)).2) := by rw [evZ, if_pos h]
theorem evZ_od {m : Nat} (k : Nat) (h : ¬m % 2 = 0) : evZ k m = (0, m) := by
  cases k with
  | zero => rfl
  | succ k => rw [evZ, if_neg h]
theorem onZ_od {m : Nat} (k : Nat) (h : m % 2 = 1) : onZ (k + 1) m = ((onZ k (m / 2)).1 + 1, (onZ k (m / 2)).2) := by rw [onZ, if_pos h]
theorem onZ_ev {m : Nat} (k : Nat) (h : ¬m % 2 = 1) : onZ k m = (0, m) := by
  cases k with
  | zero => rfl
  | succ k => rw [onZ, if_neg h]
def runM (m : Nat) : Nat × Nat × Bool :=
  if m = 0 then (0, 0, false) else if (onZ 32 (evZ 32 m).2).2 = 0 then ((evZ 32 m).1, (onZ 32 (evZ 32 m).2).1, true) else (0, 0, false)
set_option maxHeartbeats 1000000 in
theorem run_ref (m : Nat) (hm : m < 4294967296) (w : World) :
    Calls Tryd.prog 15 #[.int .u32 m] w fun e w' => e = .returned (.tuple #[.int .i64 ((runM m).1 : Nat), .int .i64 ((runM m).2.1 : Nat), .bool (runM m).2.2]) ∧ w' = w := by
  by_cases h0 : m = 0
  · subst h0
    go_enter Tryd.func15, Tryd.ntmps15
    go_wp2_with fail
    go_ret3
    exact ⟨rfl, rfl⟩
  · go_enter Tryd.func15, Tryd.ntmps15
    go_wp2_with fail
    go_loopw [0, 5] (fun xs a wr => ∃ k x : Nat, k ≤ 32 ∧ xs = .int .u32 (x : Nat) ∧ a = .int .i64 (k : Nat) ∧ x ≠ 0 ∧ x < 2 ^ (32 - k) ∧ evZ 32 m = (k + (evZ (32 - k) x).1, (evZ (32 - k) x).2) ∧ wr = w) (fun xs _ _ => (intOf xs).toNat)
    case atStart => exact ⟨0, m, by omega, rfl, rfl, h0, by simpa using hm, by simp, rfl⟩
    case round =>
      obtain ⟨k, x, hk, rfl, rfl, hx0, hxl, hev, rfl⟩ := hrel
      have hpw : 2 ^ (32 - k) ≤ 2 ^ 32 := Nat.pow_le_pow_right (by omega) (by omega)
      have ea : bits .and .u32 (x : Int) 1 = ((x % 2 : Nat) : Int) := by
        have := u32_and_nat x 1 (by omega) (by omega)
        rwa [nat_mask1] at this
      by_cases hp : x % 2 = 0
      · have hk1 : k < 31 := by
          rcases Nat.lt_or_ge k 31 with h | h
          · exact h
          · have h2 : 2 ^ (32 - k) ≤ 2 ^ 1 := Nat.pow_le_pow_right (by omega) (by omega)
            omega
        obtain ⟨j, hj⟩ : ∃ j, 32 - k = j + 1 := ⟨31 - k, by omega⟩
        have hj2 : 32 - (k + 1) = j := by omega
        rw [hj, evZ_ev j hp] at hev
        rw [hj, Nat.pow_succ] at hxl
        have HEV := Lib.hid hev
        have HXL := Lib.hid hxl
        have hx2 : x / 2 ≠ 0 := by omega
        clear hev hpw hxl
        rw [hp] at ea
        go_wp2_with fail
        go_roundw
        case rel => exact ⟨k + 1, x / 2, by omega, by simp, by simp, hx2, by have := HXL.out; rw [hj2]; omega, by rw [HEV.out, hj2, Nat.add_assoc, Nat.add_comm 1], trivial⟩
        case measure => simp [intOf]; omega
      · have he2 : evZ 32 m = (k, x) := by
          rw [hev, evZ_od _ hp]
          rfl
        have HE := Lib.hid he2
        have hp1 : x % 2 = 1 := by omega
        have hx32 : x < 4294967296 := by omega
        rw [hp1] at ea
        clear hev hpw hxl he2
        go_wp2_with fail
        go_loopw [0, 6] (fun xs a wr2 => ∃ n z : Nat, n ≤ 32 ∧ xs = .int .u32 (z : Nat) ∧ a = .int .i64 (n : Nat) ∧ z < 2 ^ (32 - n) ∧ onZ 32 x = (n + (onZ (32 - n) z).1, (onZ (32 - n) z).2) ∧ wr2 = wr) (fun xs _ _ => (intOf xs).toNat)
        case atStart => exact ⟨0, x, by omega, rfl, rfl, by simpa using hx32, by simp, rfl⟩
        case round =>
          obtain ⟨n, z, hn, rfl, rfl, hzl, hon, rfl⟩ := hrel
          have hpw : 2 ^ (32 - n) ≤ 2 ^ 32 := Nat.pow_le_pow_right (by omega) (by omega)
          have eb : bits .and .u32 (z : Int) 1 = ((z % 2 : Nat) : Int) := by
            have := u32_and_nat z 1 (by omega) (by omega)
            rwa [nat_mask1] at this
          by_cases hq : z % 2 = 1
          · have hn1 : n < 32 := by
              rcases Nat.lt_or_ge n 32 with h | h
              · exact h
              · have h2 : 2 ^ (32 - n) ≤ 2 ^ 0 := Nat.pow_le_pow_right (by omega) (by omega)
                omega
            obtain ⟨j, hj⟩ : ∃ j, 32 - n = j + 1 := ⟨31 - n, by omega⟩
            have hj2 : 32 - (n + 1) = j := by omega
            rw [hj, onZ_od j hq] at hon
            rw [hj, Nat.pow_succ] at hzl
            have HON := Lib.hid hon
            have HZL := Lib.hid hzl
            clear hon hpw hzl
            rw [hq] at eb
            go_wp2_with fail
            go_roundw
            case rel => exact ⟨n + 1, z / 2, by omega, by simp, by simp, by have := HZL.out; rw [hj2]; omega, by rw [HON.out, hj2, Nat.add_assoc, Nat.add_comm 1], trivial⟩
            case measure => simp [intOf]; omega
          · have hq0 : z % 2 = 0 := by omega
            have hfin : runM m = if z = 0 then (k, n, true) else (0, 0, false) := by
              rw [runM, if_neg h0, HE.out, hon, onZ_ev _ hq]
              rfl
            rw [hq0] at eb
            by_cases hz : z = 0
            · rw [if_pos hz] at hfin
              have HFI := Lib.hid hfin
              subst hz
              clear hfin hon hpw hzl
              go_wp2_with fail
              go_ret3
              rw [HFI.out]
              exact ⟨rfl, rfl⟩
            · rw [if_neg hz] at hfin
              have HFI := Lib.hid hfin
              clear hfin hon hpw hzl
              go_wp2_with fail
              go_ret3
              rw [HFI.out]
              exact ⟨rfl, rfl⟩

def seenF (f : Nat → Nat) : Nat → Nat
  | 0 => 0
  | i + 1 => seenF f i ||| f i
def msOk (f : Nat → Nat) (b i : Nat) : Bool :=
  (decide (f i = 0) && decide (i = 3)) || ((runM (f i)).2.2 && decide ((runM (f i)).2.1 ≤ 8) && decide (f i &&& seenF f i = 0) && decide ((runM (f i)).1 + (runM (f i)).2.1 ≤ b))
/-- Do masks go? -/
def masksB (f : Nat → Nat) (b : Nat) : Bool := (List.range 4).all (msOk f b)
theorem seenF_lt {f : Nat → Nat} (hf : ∀ i, f i < 4294967296) (i : Nat) : seenF f i < 4294967296 := by
  induction i with
  | zero => simp [seenF]
  | succ i ih => exact Nat.or_lt_two_pow (n := 32) ih (hf i)
theorem evZ_le (k m : Nat) : (evZ k m).1 ≤ k := by
  induction k generalizing m with
  | zero => simp [evZ]
  | succ k ih =>
    rw [evZ]
    split
    · have := ih (m / 2)
      simp only
      omega
    · simp
theorem onZ_le (k m : Nat) : (onZ k m).1 ≤ k := by
  induction k generalizing m with
  | zero => simp [onZ]
  | succ k ih =>
    rw [onZ]
    split
    · have := ih (m / 2)
      simp only
      omega
    · simp
theorem runM_le (m : Nat) : (runM m).1 ≤ 32 ∧ (runM m).2.1 ≤ 32 := by
  have h1 := evZ_le 32 m
  have h2 := onZ_le 32 (evZ 32 m).2
  rw [runM]
  split
  · simp
  · split
    · exact ⟨h1, h2⟩
    · simp
theorem masksB_f {f : Nat → Nat} {b i : Nat} (hi : i < 4) (h : msOk f b i = false) : masksB f b = false := by
  rw [← Bool.not_eq_true, masksB, List.all_eq_true]
  intro h2
  have := h2 i (List.mem_range.2 hi)
  rw [h] at this
  cases this
set_option maxHeartbeats 2000000 in
theorem masks_ref (f : Nat → Nat) (hf : ∀ i, f i < 4294967296) (b : Nat) (hb : b < 1000) (w : World) :
    Calls Tryd.prog 45 #[.agg #[.int .u32 (f 0 : Nat), .int .u32 (f 1 : Nat), .int .u32 (f 2 : Nat), .int .u32 (f 3 : Nat)], .int .i64 b] w fun e w' => e = .returned (.bool (masksB f b)) ∧ Below w.heap.size w w' := by
  have HB := Lib.hid ((Below.refl _ w).alloc (Nat.le_refl _) (.cells #[.int .u32 (f 0 : Nat), .int .u32 (f 1 : Nat), .int .u32 (f 2 : Nat), .int .u32 (f 3 : Nat)] 57))
  have HF := Lib.hid hf
  have HBX := Lib.hid (hp_new0 w (.cells #[.int .u32 (f 0 : Nat), .int .u32 (f 1 : Nat), .int .u32 (f 2 : Nat), .int .u32 (f 3 : Nat)] 57))
  clear hf
  go_enter Tryd.func45, Tryd.ntmps45
  go_wp2_with fail
  generalize w.alloc (.cells #[.int .u32 (f 0 : Nat), .int .u32 (f 1 : Nat), .int .u32 (f 2 : Nat), .int .u32 (f 3 : Nat)] 57) = W0 at *
  go_loopw [5, 6] (fun s x wr => ∃ i : Nat, i ≤ 4 ∧ x = .int .i64 (i : Nat) ∧ s = .int .u32 (seenF f i : Nat) ∧ (∀ j, j < i → msOk f b j = true) ∧ wr = W0) (fun _ x _ => 4 - (intOf x).toNat)
  case atStart => exact ⟨0, by omega, rfl, rfl, fun j h => absurd h (by omega), rfl⟩
  case round =>
    obtain ⟨i, hi4, rfl, rfl, hall, rfl⟩ := hrel
    have HA := Lib.hid hall
    clear hall
    by_cases hlt : i < 4
    · have hcf : (#[Value.int .u32 (f 0 : Nat), .int .u32 (f 1 : Nat), .int .u32 (f 2 : Nat), .int .u32 (f 3 : Nat)] : Array Value)[i]? = some (.int .u32 (f i : Nat)) := by
        have h : i = 0 ∨ i = 1 ∨ i = 2 ∨ i = 3 := by omega
        rcases h with rfl | rfl | rfl | rfl <;> rfl
      have c0 := hp_cell HBX.out hcf
      have hx32 := HF.out i
      have hs32 := seenF_lt HF.out i
      obtain ⟨x, hx⟩ : ∃ x, x = f i := ⟨_, rfl⟩
      have hsn : seenF f (i + 1) = seenF f i ||| x := by rw [seenF, hx]
      have hor := u32_or_nat (seenF f i) x hs32 (by omega)
      rw [← hsn] at hor
      have hms : msOk f b i = ((decide (x = 0) && decide (i = 3)) || ((runM x).2.2 && decide ((runM x).2.1 ≤ 8) && decide (x &&& seenF f i = 0) && decide ((runM x).1 + (runM x).2.1 ≤ b))) := by rw [msOk, ← hx]
      rw [← hx] at c0 hx32
      have hand := u32_and_nat x (seenF f i) hx32 hs32
      obtain ⟨an, han⟩ : ∃ an, an = x &&& seenF f i := ⟨_, rfl⟩
      rw [← han] at hand hms
      obtain ⟨sn, hsn2⟩ : ∃ sn, sn = seenF f i := ⟨_, rfl⟩
      rw [← hsn2] at hand hor ⊢
      have HMS := Lib.hid hms
      have HSN := Lib.hid hsn
      have HSE := Lib.hid hsn2.symm
      clear hcf hx hms hsn han hsn2 hs32
      by_cases hz : x = 0 ∧ i = 3
      · obtain ⟨rfl, h3⟩ := hz
        have HI3 := Lib.hid h3
        have hi3 : ((i : Int) == 3) = true := by rw [h3]; rfl
        have HSN2 : Hid (seenF f (i + 1) = sn) := Lib.hid (by rw [HSN.out, Nat.or_zero, HSE.out])
        have HAL := Lib.hid (all_snoc (p := fun j => msOk f b j = true) HA.out (by show msOk f b i = true; rw [HMS.out, h3]; rfl))
        clear h3 hor hand
        go_wp2_with fail
        go_roundw
        case rel => exact ⟨i + 1, hlt, by go_num, by rw [HSN2.out], HAL.out, trivial⟩
        case measure => simp [intOf]; omega
      · have hz2 : (((x : Int) == 0) = false) ∨ (((x : Int) == 0) = true ∧ ((i : Int) == 3) = false) := by
          by_cases h : x = 0
          · exact .inr ⟨by rw [h]; rfl, beq_eq_false_iff_ne.2 (fun e => hz ⟨h, by omega⟩)⟩
          · exact .inl (beq_eq_false_iff_ne.2 (by omega))
        have hmz : (decide (x = 0) && decide (i = 3)) = false := by simpa using hz
        rw [hmz, Bool.false_or] at HMS
        clear hmz hz
        rcases hz2 with h0 | ⟨h0, h3⟩
        all_goals
          go_wp2_with fail
          refine (run_ref x hx32 _).mono ?_
          rintro e _ ⟨rfl, rfl⟩
          obtain ⟨r, hr⟩ : ∃ r, r = runM x := ⟨_, rfl⟩
          have hrl := runM_le x
          rw [← hr] at hrl HMS ⊢
          obtain ⟨at_, n, ok⟩ := r
          simp only at hrl HMS ⊢
          clear hr
          cases ok with
          | false =>
            have HMF := Lib.hid (masksB_f hlt HMS.out)
            clear hor hand
            go_wp2_with fail
            go_ret
            exact ⟨ret_b HMF.out.symm, HB.out⟩
          | true =>
            by_cases hn8 : n ≤ 8
            · have hn8b : decide (8 < (n : Int)) = false := by simp; omega
              by_cases ha0 : an = 0
              · subst ha0
                by_cases hbb : at_ + n ≤ b
                · have hbb2 : decide ((b : Int) < (at_ : Int) + (n : Int)) = false := by simp; omega
                  have HAL := Lib.hid (all_snoc (p := fun j => msOk f b j = true) HA.out (by show msOk f b i = true; rw [HMS.out]; simp [hn8, hbb]))
                  go_wp2_with fail
                  go_roundw
                  case rel => exact ⟨i + 1, hlt, by go_num, rfl, HAL.out, trivial⟩
                  case measure => simp [intOf]; omega
                · have HMF := Lib.hid (masksB_f hlt (HMS.out.trans (by simp [hbb])))
                  have hbb2 : decide ((b : Int) < (at_ : Int) + (n : Int)) = true := by simp; omega
                  clear hor
                  go_wp2_with fail
                  go_ret
                  exact ⟨ret_b HMF.out.symm, HB.out⟩
              · have HMF := Lib.hid (masksB_f hlt (HMS.out.trans (by simp [ha0])))
                have ha1 : ((an : Int) == 0) = false := beq_eq_false_iff_ne.2 (by omega)
                clear hor
                go_wp2_with fail
                go_ret
                exact ⟨ret_b HMF.out.symm, HB.out⟩
            · have HMF := Lib.hid (masksB_f hlt (HMS.out.trans (by simp [hn8])))
              have hn8b : decide (8 < (n : Int)) = true := by simp; omega
              clear hor hand
              go_wp2_with fail
              go_ret
              exact ⟨ret_b HMF.out.symm, HB.out⟩
    · have HMT : Hid (masksB f b = true) := Lib.hid (by rw [masksB, List.all_eq_true]; exact fun j hj => HA.out j (by have := List.mem_range.1 hj; omega))
      go_wp2_with fail
      go_ret
      exact ⟨ret_b HMT.out.symm, HB.out⟩

/-- A sample of a number by its mask. -/
def bmF (f : Nat → Nat) (v j : Nat) : Int :=
  if (runM (f j)).2.2 then maskV ((v / 2 ^ (runM (f j)).1 % 2 ^ (runM (f j)).2.1 : Nat) : Int) ((runM (f j)).2.1 : Nat) else if j = 3 then 65535 else 0
def bmQ (f : Nat → Nat) (v i j : Nat) : Int := if j < i then bmF f v j else if j = 3 then 65535 else 0
def bmC (f : Nat → Nat) (v i : Nat) : Array Value := #[.int .u16 (bmQ f v i 0), .int .u16 (bmQ f v i 1), .int .u16 (bmQ f v i 2), .int .u16 (bmQ f v i 3)]
theorem bmC_succ (f : Nat → Nat) (v i : Nat) (hi : i < 4) : (bmC f v i).setIfInBounds i (.int .u16 (bmF f v i)) = bmC f v (i + 1) := by
  have h : i = 0 ∨ i = 1 ∨ i = 2 ∨ i = 3 := by omega
  rcases h with rfl | rfl | rfl | rfl <;> simp [bmC, bmQ]
theorem bmC_same (f : Nat → Nat) (v i : Nat) (hi : i < 4) (h0 : (runM (f i)).2.2 = false) : bmC f v i = bmC f v (i + 1) := by
  have h : i = 0 ∨ i = 1 ∨ i = 2 ∨ i = 3 := by omega
  rcases h with rfl | rfl | rfl | rfl <;> simp [bmC, bmQ, bmF, h0]
def bmV (f : Nat → Nat) (v : Nat) : Value := .agg #[.int .u16 (bmF f v 0), .int .u16 (bmF f v 1), .int .u16 (bmF f v 2), .int .u16 (bmF f v 3)]
set_option maxRecDepth 100000 in
set_option maxHeartbeats 2000000 in
theorem byMasks_ref (f : Nat → Nat) (hf : ∀ i, f i < 4294967296) (v : Nat) (hv : v < 4294967296) (w : World) :
    Calls Tryd.prog 28 #[.int .u32 v, .agg #[.int .u32 (f 0 : Nat), .int .u32 (f 1 : Nat), .int .u32 (f 2 : Nat), .int .u32 (f 3 : Nat)]] w fun e w' => e = .returned (bmV f v) ∧ Below w.heap.size w w' := by
  have HB := Lib.hid ((((Below.refl _ w).alloc (Nat.le_refl _) (.cells #[.int .u32 (f 0 : Nat), .int .u32 (f 1 : Nat), .int .u32 (f 2 : Nat), .int .u32 (f 3 : Nat)] 57)).alloc (by simp) (.cells #[.int .u16 0, .int .u16 0, .int .u16 0, .int .u16 0] 43)).alloc (by simp; omega) (.cells #[.int .u16 0, .int .u16 0, .int .u16 0, .int .u16 65535] 43))
  have HF := Lib.hid hf
  have HM := Lib.hid (hp_alloc (.cells #[.int .u16 0, .int .u16 0, .int .u16 0, .int .u16 65535] 43) (hp_alloc (.cells #[.int .u16 0, .int .u16 0, .int .u16 0, .int .u16 0] 43) (hp_new0 w (.cells #[.int .u32 (f 0 : Nat), .int .u32 (f 1 : Nat), .int .u32 (f 2 : Nat), .int .u32 (f 3 : Nat)] 57))))
  have HR := Lib.hid (hp_alloc (.cells #[.int .u16 0, .int .u16 0, .int .u16 0, .int .u16 65535] 43) (hp_newk (o := (.cells #[.int .u16 0, .int .u16 0, .int .u16 0, .int .u16 0] 43)) (World.size_alloc w (.cells #[.int .u32 (f 0 : Nat), .int .u32 (f 1 : Nat), .int .u32 (f 2 : Nat), .int .u32 (f 3 : Nat)] 57))))
  have HP : Hid ((((w.alloc (.cells #[.int .u32 (f 0 : Nat), .int .u32 (f 1 : Nat), .int .u32 (f 2 : Nat), .int .u32 (f 3 : Nat)] 57)).alloc (.cells #[.int .u16 0, .int .u16 0, .int .u16 0, .int .u16 0] 43)).alloc (.cells #[.int .u16 0, .int .u16 0, .int .u16 0, .int .u16 65535] 43)).heap[w.heap.size + 1 + 1]? = some (.cells (bmC f v 0) 43 (0, 0))) := Lib.hid (hp_newk (o := (.cells #[.int .u16 0, .int .u16 0, .int .u16 0, .int .u16 65535] 43)) (by simp))
  clear hf
  go_enter Tryd.func28, Tryd.ntmps28
  go_wp2_with fail
  generalize (((w.alloc (.cells #[.int .u32 (f 0 : Nat), .int .u32 (f 1 : Nat), .int .u32 (f 2 : Nat), .int .u32 (f 3 : Nat)] 57)).alloc (.cells #[.int .u16 0, .int .u16 0, .int .u16 0, .int .u16 0] 43)).alloc (.cells #[.int .u16 0, .int .u16 0, .int .u16 0, .int .u16 65535] 43)) = W0 at *
  go_loopw [6] (fun x wr => ∃ i : Nat, i ≤ 4 ∧ x = .int .i64 (i : Nat) ∧ Below w.heap.size w wr ∧ wr.heap[w.heap.size]? = some (.cells #[.int .u32 (f 0 : Nat), .int .u32 (f 1 : Nat), .int .u32 (f 2 : Nat), .int .u32 (f 3 : Nat)] 57 (0, 0)) ∧ wr.heap[w.heap.size + 1]? = some (.cells #[.int .u16 0, .int .u16 0, .int .u16 0, .int .u16 0] 43 (0, 0)) ∧ wr.heap[w.heap.size + 1 + 1]? = some (.cells (bmC f v i) 43 (0, 0))) (fun x _ => 4 - (intOf x).toNat)
  case atStart => exact ⟨0, by omega, rfl, HB.out, HM.out, HR.out, HP.out⟩
  case round =>
    obtain ⟨i, hi4, rfl, hB, hM, hR, hP⟩ := hrel
    by_cases hlt : i < 4
    · have hcf : (#[Value.int .u32 (f 0 : Nat), .int .u32 (f 1 : Nat), .int .u32 (f 2 : Nat), .int .u32 (f 3 : Nat)] : Array Value)[i]? = some (.int .u32 (f i : Nat)) := by
        have h : i = 0 ∨ i = 1 ∨ i = 2 ∨ i = 3 := by omega
        rcases h with rfl | rfl | rfl | rfl <;> rfl
      have c0 := hp_cell hM hcf
      have hx32 := HF.out i
      have hps : i < (bmC f v i).size := by simp [bmC]; omega
      obtain ⟨ov, cp⟩ : ∃ ov, wr.cell? ⟨w.heap.size + 1 + 1, i, none⟩ = some ov := ⟨_, hp_cell hP (Array.getElem?_eq_getElem hps)⟩
      have fp := hp_froz hP i
      obtain ⟨r, hr⟩ : ∃ r, r = runM (f i) := ⟨_, rfl⟩
      have hrl := runM_le (f i)
      have hbm : bmF f v i = if r.2.2 then maskV ((v / 2 ^ r.1 % 2 ^ r.2.1 : Nat) : Int) (r.2.1 : Nat) else if i = 3 then 65535 else 0 := by rw [bmF, ← hr]
      have hsame := bmC_same f v i hlt
      have HS := Lib.hid (bmC_succ f v i hlt)
      have HB2 := Lib.hid hB
      have HM2 := Lib.hid hM
      have HR2 := Lib.hid hR
      have HP2 := Lib.hid hP
      have HRR := Lib.hid hr
      rw [← hr] at hsame hrl
      clear hcf hr hB hM hR hP hps HB HM HR HP
      go_wp2_with fail
      refine (run_ref (f i) hx32 _).mono ?_
      rintro e _ ⟨rfl, rfl⟩
      rw [← HRR.out]
      obtain ⟨at_, n, ok⟩ := r
      simp only at hrl hbm hsame ⊢
      cases ok with
      | false =>
        have HSA := Lib.hid (hsame rfl)
        clear hsame hbm cp fp
        go_wp2_with fail
        go_roundw
        case rel => exact ⟨i + 1, hlt, by go_num, HB2.out, HM2.out, HR2.out, HSA.out ▸ HP2.out⟩
        case measure => simp [intOf]; omega
      | true =>
        simp only [if_true] at hbm
        have HBM := Lib.hid hbm
        have hcv : (v : Int) / 2 ^ at_ = ((v / 2 ^ at_ : Nat) : Int) := by simp
        obtain ⟨y, hy⟩ : ∃ y, y = v / 2 ^ at_ := ⟨_, rfl⟩
        have hy32 : y < 4294967296 := by rw [hy]; exact Nat.lt_of_le_of_lt (Nat.div_le_self _ _) hv
        rw [← hy] at hcv HBM
        have h2n : 2 ^ n ≤ 2 ^ 32 := Nat.pow_le_pow_right (by omega) (by omega)
        have h2p : 0 < 2 ^ n := Nat.pow_pos (by omega)
        have hand := i64_and_nat y (2 ^ n - 1) (by omega) (by omega)
        rw [Nat.and_two_pow_sub_one_eq_mod, show ((2 ^ n - 1 : Nat) : Int) = 2 ^ n - 1 by rw [Int.ofNat_sub h2p]; simp] at hand
        have hw1 : wrap64 (wrap64 (2 ^ n) - 1) = 2 ^ n - 1 := by
          have e : (2 : Int) ^ n = ((2 ^ n : Nat) : Int) := by simp
          rw [e, IntWalk.wrap64_in ((2 ^ n : Nat) : Int) (by omega), IntWalk.wrap64_in _ (by omega)]
        rw [← hw1] at hand
        have hyn : y % 2 ^ n ≤ y := Nat.mod_le _ _
        have HAND := Lib.hid hand
        clear hsame hbm hy h2n h2p hw1 hand
        go_wp2_with fail
        rw [HAND.out]
        refine (mask12 _ _ (by omega) (by omega) _).mono ?_
        rintro e _ ⟨rfl, rfl⟩
        rw [← HBM.out]
        go_wp2_with fail
        go_roundw
        case rel => exact ⟨i + 1, hlt, by go_num, HB2.out.setCell (p := ⟨w.heap.size + 1 + 1, i, none⟩) (by simp; omega) _, hp_oth HM2.out (by omega), hp_oth HR2.out (by omega), HS.out ▸ heap_set HP2.out⟩
        case measure => simp [intOf]; omega
    · have hi : i = 4 := by omega
      rw [hi] at hP
      have p0 : wr.cell? ⟨w.heap.size + 1 + 1, 0, none⟩ = some (.int .u16 (bmF f v 0)) := hp_cell (j := 0) hP rfl
      have p1 : wr.cell? ⟨w.heap.size + 1 + 1, 1, none⟩ = some (.int .u16 (bmF f v 1)) := hp_cell (j := 1) hP rfl
      have p2 : wr.cell? ⟨w.heap.size + 1 + 1, 2, none⟩ = some (.int .u16 (bmF f v 2)) := hp_cell (j := 2) hP rfl
      have p3 : wr.cell? ⟨w.heap.size + 1 + 1, 3, none⟩ = some (.int .u16 (bmF f v 3)) := hp_cell (j := 3) hP rfl
      have z0 := hp_cell (j := 0) hR rfl
      have z1 := hp_cell (j := 1) hR rfl
      have z2 := hp_cell (j := 2) hR rfl
      have z3 := hp_cell (j := 3) hR rfl
      have zf := hp_froz hR
      have HB2 := Lib.hid hB
      clear hB hM hR hP hi HB HM HR HP
      go_wp2_with fail
      refine bodyPost_ret (v := bmV f v) (by rw [results_cell1 rfl]; unfold bmV; go_simp) rfl ?_
      refine ⟨rfl, ?_⟩
      exact ((((HB2.out).setCell (p := ⟨w.heap.size + 1, 0, none⟩) (by simp) _).setCell (p := ⟨w.heap.size + 1, 1, none⟩) (by simp) _).setCell (p := ⟨w.heap.size + 1, 2, none⟩) (by simp) _).setCell (p := ⟨w.heap.size + 1, 3, none⟩) (by simp) _
end Go.Proofs.YtdooefnckdklmaaDoor

namespace Go.Proofs.YtdooefnckdklmaaDoor
set_option maxRecDepth 100000
set_option linter.unusedVariables false
open Go.ChangeShapes Go.WideShapes Go.ChangeAt Go.RowKit

def strB (m : Nat) (d : Nat → Nat) : ByteArray := strOfNums ((List.range m).map fun i => ((d i : Nat) : Int))
theorem ba_beq (s : ByteArray) : (s == s) = true := by
  cases s with | mk d =>
  show (d == d) = true
  exact beq_iff_eq.2 rfl
theorem strB_congr {m : Nat} {d d' : Nat → Nat} (h : ∀ i, i < m → d i = d' i) : strB m d = strB m d' := by
  unfold strB
  congr 1
  apply List.map_congr_left
  intro i hi
  rw [h i (by simpa using hi)]
theorem run_str {w : World} {A : Option Addr} {m cap : Nat} {d : Nat → Nat} (h : Byt w A m d) :
    (convert 22 9 (.slice A m cap)).run Tryd.prog w = .ok (.string (strB m d)) w := by
  by_cases hm : 0 < m
  · obtain ⟨bk, off, rfl, _, hc⟩ := h hm
    exact run_convert_bytes_arg w 22 5 Tryd.underlying22 Tryd.underlying5 bk off m cap ((List.range m).map fun i => ((d i : Nat) : Int)) (by simp)
      (fun i hi => by rw [hc i hi]; simp [List.getD_eq_getElem?_getD, hi]) 9 Tryd.underlying9
  · obtain rfl : m = 0 := by omega
    cases A with
    | none => exact run_convert_bytes_nil w 22 5 Tryd.underlying22 Tryd.underlying5 0 cap 9 Tryd.underlying9
    | some a =>
      rw [run_convert_bytes_string w 22 9 5 _ 0 cap Tryd.underlying22 Tryd.underlying5 Tryd.underlying9]
      exact run_bytesToString w a 0 cap [] (run_loadCells_list (P := Tryd.prog) w a [] (fun j v hj => by simp at hj))
end Go.Proofs.YtdooefnckdklmaaDoor

namespace Go.Proofs.YtdooefnckdklmaaDoor
set_option maxRecDepth 100000
set_option linter.unusedVariables false
open Go.RowKit
/-- k's body is entered with what it captured. -/
def Enters (k : FuncId) (caps : Array Value) : Prop := ∀ W : World, (callFunc k caps).run Tryd.prog W = .ok (.enter k caps) W
end Go.Proofs.YtdooefnckdklmaaDoor

namespace Go.Proofs.YtdooefnckdklmaaDoor
set_option maxRecDepth 100000
set_option linter.unusedVariables false
open Go.ChangeShapes Go.WideShapes Go.ChangeAt Go.RowKit
section
variable {S : List Nat} {w w' w'' : World}
end
/-- A reader's row: n bytes b, at bits of them read. -/
structure Rd (T : TypeId) (g : Nat) (A : Option Addr) (n cap : Nat) (b : Nat → Nat) (p : Nat) (vo : Value) (fr : Int) (w : World) : Prop where
  box : w.heap[g]? = some (.cells #[.slice A n cap, vo, .int .i64 (p : Nat), .int .i64 fr] T (0, 0))
  byt : Byt w A n b
  off : 0 < n → Off A [g]
section
variable {T : TypeId} {g : Nat} {A : Option Addr} {n cap : Nat} {b : Nat → Nat} {p : Nat} {vo : Value} {fr : Int} {w w' : World}
theorem Rd.chg {S : List Nat} (h : Rd T g A n cap b p vo fr w) (hc : Chg S w w') (hg : g ∉ S) (hA : 0 < n → Off A S) : Rd T g A n cap b p vo fr w' :=
  ⟨hp_chg h.box hc hg, h.byt.chg hc hA, h.off⟩
theorem Rd.alloc (h : Rd T g A n cap b p vo fr w) (o : Obj) : Rd T g A n cap b p vo fr (w.alloc o) :=
  h.chg ((Chg.refl [] w).alloc o) (by simp) (fun _ _ _ => by simp)
theorem Rd.move (h : Rd T g A n cap b p vo fr w) {q : Nat} (hc : Chg [g] w w') (hb : w'.heap[g]? = some (.cells #[.slice A n cap, vo, .int .i64 (q : Nat), .int .i64 fr] T (0, 0))) : Rd T g A n cap b q vo fr w' :=
  ⟨hb, h.byt.chg hc h.off, h.off⟩
end
def bitL (b : Nat → Nat) (k : Nat) : Nat := b (k / 8) / 2 ^ (k % 8) % 2
def bitH (b : Nat → Nat) (k : Nat) : Nat := b (k / 8) / 2 ^ (7 - k % 8) % 2

end Go.Proofs.YtdooefnckdklmaaDoor

namespace Go.Proofs.YtdooefnckdklmaaDoor
set_option maxRecDepth 100000
set_option linter.unusedVariables false
open Go.ChangeShapes Go.WideShapes Go.ChangeAt Go.RowKit
theorem i64_and1 (n : Int) : bits .and .i64 n 1 = n % 2 := by
  show IntKind.i64.wrap ((BitVec.ofInt 64 n &&& BitVec.ofInt 64 1).toNat : Int) = _
  rw [BitVec.toNat_and, show (BitVec.ofInt 64 1).toNat = 1 from rfl, nat_mask1, BitVec.toNat_ofInt]
  have h1 : (0 : Int) ≤ n % (2 ^ 64 : Nat) := Int.emod_nonneg _ (by omega)
  have h2 : ((n % ((2 ^ 64 : Nat) : Int)).toNat % 2 : Nat) = ((n % 2).toNat) := by omega
  rw [h2]
  rw [IntWalk.i64_in _ (by omega)]
  omega
theorem run_quo8 (p : Nat) (hp : p < 1000000000) (W : World) : (binOp BinOp.quo 3 (.int .i64 (p : Nat)) (.int .i64 8)).run Tryd.prog W = .ok (.int .i64 ((p / 8 : Nat) : Int)) W := by
  simp [binOp, go_sem]
  exact IntWalk.i64_in _ (by omega)
theorem run_rem8 (p : Nat) (hp : p < 1000000000) (W : World) : (binOp BinOp.rem 3 (.int .i64 (p : Nat)) (.int .i64 8)).run Tryd.prog W = .ok (.int .i64 ((p % 8 : Nat) : Int)) W := by
  simp [binOp, go_sem]
  exact Int.tmod_eq_emod_of_nonneg (by omega)
theorem run_shr8 (x p : Nat) (hx : x < 256) (hp : p < 8) (W : World) : (binOp .shr 5 (.int .u8 (x : Nat)) (.int .i64 (p : Nat))).run Tryd.prog W = .ok (.int .u8 ((x / 2 ^ p : Nat) : Int)) W := by
  simp [binOp, go_sem]
theorem pow_bd {x p : Nat} (hx : x < 16777216) (hp : p ≤ 24) : x * 2 ^ p < 281474976710656 := by
  have h : 2 ^ p ≤ 2 ^ 24 := Nat.pow_le_pow_right (by omega) hp
  calc x * 2 ^ p ≤ x * 2 ^ 24 := Nat.mul_le_mul_left _ h
    _ < 281474976710656 := by omega
theorem run_shl (x p : Nat) (hx : x < 16777216) (hp : p ≤ 24) (W : World) : (binOp .shl 3 (.int .i64 (x : Nat)) (.int .i64 (p : Nat))).run Tryd.prog W = .ok (.int .i64 ((x * 2 ^ p : Nat) : Int)) W := by
  have h := pow_bd hx hp
  simp [binOp, go_sem]
  have e : (x : Int) * 2 ^ p = ((x * 2 ^ p : Nat) : Int) := by simp
  rw [e]
  exact IntWalk.i64_in _ (by omega)
theorem run_or (x p : Nat) (hx : x < 281474976710656) (hp : p < 281474976710656) (W : World) : (binOp .or 3 (.int .i64 (x : Nat)) (.int .i64 (p : Nat))).run Tryd.prog W = .ok (.int .i64 ((x ||| p : Nat) : Int)) W := by
  simp [binOp, go_sem]
  exact i64_or_nat x p (by omega) (by omega)
theorem run_and1 (x : Nat) (hx : x < 256) (W : World) : (binOp .and 5 (.int .u8 (x : Nat)) (.int .u8 1)).run Tryd.prog W = .ok (.int .u8 ((x % 2 : Nat) : Int)) W := by
  simp [binOp, go_sem]
  have := u8_and_nat x 1 hx (by omega)
  rw [nat_mask1] at this
  simpa using this
theorem and1_eq (x p : Nat) (hx : x / 2 ^ p < 256) : wrap64 (bits .and .u8 ((x : Int) / 2 ^ p) 1) = ((x / 2 ^ p % 2 : Nat) : Int) := by
  have e : (x : Int) / 2 ^ p = ((x / 2 ^ p : Nat) : Int) := by simp
  rw [e]
  have := u8_and_nat (x / 2 ^ p) 1 hx (by omega)
  rw [nat_mask1] at this
  rw [show (1 : Int) = ((1 : Nat) : Int) from rfl, this]
  exact IntWalk.wrap64_in _ (by omega)
end Go.Proofs.YtdooefnckdklmaaDoor

namespace Go.Proofs.YtdooefnckdklmaaDoor
set_option maxRecDepth 100000
set_option linter.unusedVariables false
open Go.ChangeShapes Go.WideShapes Go.ChangeAt Go.RowKit

/-- May k bits be asked for where l are left? -/
def askB (k : Int) (l : Nat) : Bool := decide (0 ≤ k ∧ k ≤ 24 ∧ k ≤ (l : Int))
def Stop1 (e : Ending) : Prop := ∃ u pv, e = .panicked [{ v := .iface u pv, recovered := false }]
def takeL (b : Nat → Nat) (p : Nat) : Nat → Nat
  | 0 => 0
  | k + 1 => takeL b p k + bitL b (p + k) * 2 ^ k
def takeH (b : Nat → Nat) (p : Nat) : Nat → Nat
  | 0 => 0
  | k + 1 => 2 * takeH b p k + bitH b (p + k)
theorem bitL_lt (b : Nat → Nat) (p : Nat) : bitL b p < 2 := Nat.mod_lt _ (by omega)
theorem bitH_lt (b : Nat → Nat) (p : Nat) : bitH b p < 2 := Nat.mod_lt _ (by omega)
theorem takeL_lt (b : Nat → Nat) (p k : Nat) : takeL b p k < 2 ^ k := by
  induction k with
  | zero => simp [takeL]
  | succ k ih =>
    have h := bitL_lt b (p + k)
    have h2 : bitL b (p + k) * 2 ^ k ≤ 1 * 2 ^ k := Nat.mul_le_mul_right _ (by omega)
    rw [takeL, Nat.pow_succ]
    omega
theorem takeH_lt (b : Nat → Nat) (p k : Nat) : takeH b p k < 2 ^ k := by
  induction k with
  | zero => simp [takeH]
  | succ k ih =>
    have h := bitH_lt b (p + k)
    rw [takeH, Nat.pow_succ]
    omega
theorem pow24 {k : Nat} (h : k ≤ 24) : 2 ^ k ≤ 16777216 := Nat.pow_le_pow_right (n := 2) (by omega) h
theorem orL (b : Nat → Nat) (p k : Nat) : takeL b p k ||| bitL b (p + k) * 2 ^ k = takeL b p (k + 1) := by
  have h := takeL_lt b p k
  rw [Nat.or_comm, nat_join k _ _ (by simp) h, takeL, Nat.add_comm]
theorem orH (b : Nat → Nat) (p k : Nat) : takeH b p k * 2 ||| bitH b (p + k) = takeH b p (k + 1) := by
  have h := bitH_lt b (p + k)
  rw [nat_join 1 _ _ (by omega) (by omega), takeH, Nat.mul_comm]
theorem val_i {k : IntKind} {a b : Int} (h : a = b) : Value.int k a = Value.int k b := by rw [h]
theorem orL_eq (b : Nat → Nat) (p k : Nat) (hk : k < 24) : bits BinOp.or IntKind.i64 ((takeL b p k : Nat) : Int) (wrap64 (((bitL b (p + k) : Nat) : Int) * 2 ^ k)) = ((takeL b p (k + 1) : Nat) : Int) := by
  have h1 := takeL_lt b p k
  have h2 := bitL_lt b (p + k)
  have h3 := pow24 (k := k) (by omega)
  have h4 := pow_bd (x := bitL b (p + k)) (p := k) (by omega) (by omega)
  rw [show ((bitL b (p + k) : Nat) : Int) * 2 ^ k = ((bitL b (p + k) * 2 ^ k : Nat) : Int) by simp, IntWalk.wrap64_in _ (by omega), i64_or_nat _ _ (by omega) (by omega), orL]
theorem orH_eq (b : Nat → Nat) (p k : Nat) (hk : k < 24) : bits BinOp.or IntKind.i64 (((takeH b p k : Nat) : Int) * 2) ((bitH b (p + k) : Nat) : Int) = ((takeH b p (k + 1) : Nat) : Int) := by
  have h1 := takeH_lt b p k
  have h2 := bitH_lt b (p + k)
  have h3 := pow24 (k := k) (by omega)
  rw [show ((takeH b p k : Nat) : Int) * 2 = ((takeH b p k * 2 : Nat) : Int) by simp, i64_or_nat _ _ (by omega) (by omega), orH]
section
variable (T : TypeId) (g : Nat) (A : Option Addr) (n cap : Nat) (b : Nat → Nat) (p : Nat) (vo : Value) (fr : Int) (hn : n ≤ 1000000)
end
end Go.Proofs.YtdooefnckdklmaaDoor

namespace Go.Proofs.YtdooefnckdklmaaDoor
set_option maxRecDepth 100000
set_option linter.unusedVariables false
open Go.ChangeShapes Go.WideShapes Go.ChangeAt Go.RowKit

/-- The reference's reader. -/
structure Rf (g : Nat) (A : Option Addr) (n cap : Nat) (b : Nat → Nat) (p : Nat) (hi sh : Bool) (w : World) : Prop where
  box : w.heap[g]? = some (.cells #[.slice A n cap, .int .i64 (p : Nat), .bool hi, .bool sh] 78 (0, 0))
  byt : Byt w A n b
  off : 0 < n → Off A [g]
section
variable {g : Nat} {A : Option Addr} {n cap : Nat} {b : Nat → Nat} {p : Nat} {hi sh : Bool} {w w' : World}
theorem Rf.chg {S : List Nat} (h : Rf g A n cap b p hi sh w) (hc : Chg S w w') (hg : g ∉ S) (hA : 0 < n → Off A S) : Rf g A n cap b p hi sh w' :=
  ⟨hp_chg h.box hc hg, h.byt.chg hc hA, h.off⟩
theorem Rf.move (h : Rf g A n cap b p hi sh w) {q : Nat} {sh' : Bool} (hc : Chg [g] w w') (hb : w'.heap[g]? = some (.cells #[.slice A n cap, .int .i64 (q : Nat), .bool hi, .bool sh'] 78 (0, 0))) : Rf g A n cap b q hi sh' w' :=
  ⟨hb, h.byt.chg hc h.off, h.off⟩
end
theorem orL_eq' (b : Nat → Nat) (p k : Nat) (hk : k < 24) : bits BinOp.or IntKind.i64 ((takeL b p k : Nat) : Int) (wrap64 (((bitL b (p + k) : Nat) : Int) * 2 ^ k)) = ((takeL b p (k + 1) : Nat) : Int) := orL_eq b p k hk
theorem orH_eq' (b : Nat → Nat) (p k : Nat) (hk : k < 24) : bits BinOp.or IntKind.i64 (wrap64 (((takeH b p k : Nat) : Int) * 2)) ((bitH b (p + k) : Nat) : Int) = ((takeH b p (k + 1) : Nat) : Int) := by
  have h1 := takeH_lt b p k
  have h3 := pow24 (k := k) (by omega)
  rw [IntWalk.wrap64_in _ (by omega)]
  exact orH_eq b p k hk
def bitB (hi : Bool) (b : Nat → Nat) (k : Nat) : Nat := if hi = true then bitH b k else bitL b k
def takeB (hi : Bool) (b : Nat → Nat) (p k : Nat) : Nat := if hi = true then takeH b p k else takeL b p k
theorem and1_i64 (x p : Nat) (hx : x / 2 ^ p < 256) : bits .and .i64 (wrap64 ((x : Int) / 2 ^ p)) 1 = ((x / 2 ^ p % 2 : Nat) : Int) := by
  rw [show (x : Int) / 2 ^ p = ((x / 2 ^ p : Nat) : Int) by simp]
  generalize x / 2 ^ p = y at *
  rw [IntWalk.wrap64_in _ (by omega), i64_and1]
  omega
theorem bitB_lt (hi : Bool) (b : Nat → Nat) (k : Nat) : bitB hi b k < 2 := by unfold bitB; split; exact bitH_lt b k; exact bitL_lt b k
section
variable (g : Nat) (A : Option Addr) (n cap : Nat) (b : Nat → Nat) (p : Nat) (hi sh : Bool) (hn : n ≤ 1000000)
include hn
set_option maxRecDepth 100000 in
set_option maxHeartbeats 1000000 in
theorem left_ref (hp : p ≤ 8 * n) (w : World) (h : Rf g A n cap b p hi sh w) :
    Calls Tryd.prog 46 #[.pointer (some ⟨g, 0, none⟩)] w fun e w' => e = .returned (.int .i64 ((8 * n - p : Nat) : Int)) ∧ ∃ m, w' = w.drewN m := by
  have c0 := hp_cell (j := 0) h.box rfl
  have c1 := hp_cell (j := 1) h.box rfl
  have e1 : (8 : Int) * n - p = ((8 * n - p : Nat) : Int) := by omega
  go_enter Tryd.func46, Tryd.ntmps46
  go_wp2_with fail
  go_quiet (fail)
  go_wp2
  go_ret
  exact ⟨rfl, _, rfl⟩
set_option maxRecDepth 100000 in
set_option maxHeartbeats 1000000 in
theorem one_ref (hp : p < 8 * n) (hb : ∀ i, b i < 256) (w : World) (h : Rf g A n cap b p hi sh w) :
    Calls Tryd.prog 47 #[.pointer (some ⟨g, 0, none⟩)] w fun e w' => e = .returned (.int .i64 (bitB hi b p : Nat)) ∧ Chg [g] w w' ∧ Rf g A n cap b (p + 1) hi sh w' := by
  have c0 := hp_cell (j := 0) h.box rfl
  have c1 := hp_cell (j := 1) h.box rfl
  have c2 := hp_cell (j := 2) h.box rfl
  obtain ⟨bk, off, rfl, hlt, hc⟩ := h.byt (by omega)
  have hq := run_quo8 p (by omega)
  have hr := run_rem8 p (by omega)
  have cb := hc (p / 8) (by omega)
  have hlq : p / 8 < n := by omega
  have hof := h.off (by omega) _ rfl
  simp at hof
  have ff := fun j => hp_froz h.box j
  have HR := Lib.hid h
  clear h hc
  have tm : ((p : Nat) : Int).tmod 8 = ((p % 8 : Nat) : Int) := (Int.tmod_eq_emod_of_nonneg (by omega)).trans (by omega)
  cases hi with
  | true =>
    have hbl : b (p / 8) / 2 ^ (7 - p % 8) < 256 := Nat.lt_of_le_of_lt (Nat.div_le_self _ _) (hb _)
    go_enter Tryd.func47, Tryd.ntmps47
    go_wp2_with fail
    go_quiet (fail)
    go_wp2
    go_ret
    have hc2 : Chg [g] w ((w.drewN nq).setCell ⟨g, 1, none⟩ (.int .i64 ((p : Int) + 1))) := ((Chg.refl _ w).drewN nq).set (.inl (by simp)) _ _
    exact ⟨ret_i (and1_i64 _ _ hbl), hc2, HR.out.move hc2 (heap_set (W := w.drewN nq) (i := 1) (x := .int .i64 ((p : Int) + 1)) HR.out.box)⟩
  | false =>
    have hbl : b (p / 8) / 2 ^ (p % 8) < 256 := Nat.lt_of_le_of_lt (Nat.div_le_self _ _) (hb _)
    go_enter Tryd.func47, Tryd.ntmps47
    go_wp2_with fail
    go_quiet (fail)
    go_wp2
    go_ret
    have hc2 : Chg [g] w ((w.drewN nq).setCell ⟨g, 1, none⟩ (.int .i64 ((p : Int) + 1))) := ((Chg.refl _ w).drewN nq).set (.inl (by simp)) _ _
    exact ⟨ret_i (and1_i64 _ _ hbl), hc2, HR.out.move hc2 (heap_set (W := w.drewN nq) (i := 1) (x := .int .i64 ((p : Int) + 1)) HR.out.box)⟩
set_option maxRecDepth 100000 in
set_option maxHeartbeats 1000000 in
theorem take_refH (hp : p ≤ 8 * n) (hb : ∀ i, b i < 256) (k : Nat) (hk : askB k (8 * n - p) = true) (w : World) (h : Rf g A n cap b p true sh w) :
    Calls Tryd.prog 30 #[.pointer (some ⟨g, 0, none⟩), .int .i64 (k : Nat)] w fun e w' => e = .returned (.tuple #[.int .i64 (takeB true b p k : Nat), .bool true]) ∧ Chg [g] w w' ∧ Rf g A n cap b (p + k) true sh w' := by
  simp only [askB, decide_eq_true_eq] at hk
  obtain ⟨_, k2, k3⟩ := hk
  have c2 := hp_cell (j := 2) h.box rfl
  have d1 : decide ((k : Int) < 0) = false := decide_eq_false (by omega)
  have d2 : decide (24 < (k : Int)) = false := by simp; omega
  have d3 : decide (8 * n - p < k) = false := by simp; omega
  have hx24 : ∀ j, j < k → -9223372036854775808 ≤ ((takeH b p j : Nat) : Int) * 2 ∧ ((takeH b p j : Nat) : Int) * 2 ≤ 9223372036854775807 := fun j hj => by have := takeH_lt b p j; have := pow24 (k := j) (by omega); omega
  have HX := Lib.hid hx24
  clear hx24
  go_enter Tryd.func30, Tryd.ntmps30
  go_wp2_with fail
  refine (left_ref g A n cap b p true sh hn hp _ h).mono ?_
  rintro e w1 ⟨rfl, m, rfl⟩
  have h1 := h.chg ((Chg.refl [] w).drewN m) (by simp) (fun _ _ _ => by simp)
  have HC := Lib.hid ((Chg.refl [g] w).drewN m)
  clear h c2
  go_wp2_with fail
  go_loopw [6, 7] (fun x i wr => ∃ j : Nat, j ≤ k ∧ i = .int .i64 j ∧ x = .int .i64 (takeH b p j : Nat) ∧ Chg [g] w wr ∧ Rf g A n cap b (p + j) true sh wr) (fun _ i _ => k - (intOf i).toNat)
  case atStart => exact ⟨0, by omega, rfl, rfl, HC.out, h1⟩
  case round =>
    obtain ⟨j, hj, rfl, rfl, hC, hR⟩ := hrel
    have b2 := hp_cell (j := 2) hR.box rfl
    by_cases hlt : j < k
    · go_wp2_with fail
      have hxj := HX.out j hlt
      refine (one_ref g A n cap b (p + j) true sh hn (by omega) hb _ hR).mono ?_
      rintro e w2 ⟨rfl, hC2, hR2⟩
      have hbb : bitB true b (p + j) = bitH b (p + j) := rfl
      rw [hbb]
      have HC2 := Lib.hid (hC.trans hC2)
      have HR2 := Lib.hid hR2
      clear hC hC2 hR hR2 b2
      go_wp2_with fail
      go_roundw
      case rel => exact ⟨j + 1, by omega, by go_num, val_i (orH_eq' b p j (by omega)), HC2.out, HR2.out⟩
      case measure => simp [intOf]; omega
    · obtain rfl : j = k := by omega
      go_wp2_with fail
      go_ret2
      exact ⟨rfl, hC, hR⟩
set_option maxRecDepth 100000 in
set_option maxHeartbeats 1000000 in
theorem take_refL (hp : p ≤ 8 * n) (hb : ∀ i, b i < 256) (k : Nat) (hk : askB k (8 * n - p) = true) (w : World) (h : Rf g A n cap b p false sh w) :
    Calls Tryd.prog 30 #[.pointer (some ⟨g, 0, none⟩), .int .i64 (k : Nat)] w fun e w' => e = .returned (.tuple #[.int .i64 (takeB false b p k : Nat), .bool true]) ∧ Chg [g] w w' ∧ Rf g A n cap b (p + k) false sh w' := by
  simp only [askB, decide_eq_true_eq] at hk
  obtain ⟨_, k2, k3⟩ := hk
  have c2 := hp_cell (j := 2) h.box rfl
  have d1 : decide ((k : Int) < 0) = false := decide_eq_false (by omega)
  have d2 : decide (24 < (k : Int)) = false := by simp; omega
  have d3 : decide (8 * n - p < k) = false := by simp; omega
  go_enter Tryd.func30, Tryd.ntmps30
  go_wp2_with fail
  refine (left_ref g A n cap b p false sh hn hp _ h).mono ?_
  rintro e w1 ⟨rfl, m, rfl⟩
  have h1 := h.chg ((Chg.refl [] w).drewN m) (by simp) (fun _ _ _ => by simp)
  have HC := Lib.hid ((Chg.refl [g] w).drewN m)
  clear h c2
  go_wp2_with fail
  go_loopw [6, 7] (fun x i wr => ∃ j : Nat, j ≤ k ∧ i = .int .i64 j ∧ x = .int .i64 (takeL b p j : Nat) ∧ Chg [g] w wr ∧ Rf g A n cap b (p + j) false sh wr) (fun _ i _ => k - (intOf i).toNat)
  case atStart => exact ⟨0, by omega, rfl, rfl, HC.out, h1⟩
  case round =>
    obtain ⟨j, hj, rfl, rfl, hC, hR⟩ := hrel
    have b2 := hp_cell (j := 2) hR.box rfl
    by_cases hlt : j < k
    · go_wp2_with fail
      refine (one_ref g A n cap b (p + j) false sh hn (by omega) hb _ hR).mono ?_
      rintro e w2 ⟨rfl, hC2, hR2⟩
      have hbb : bitB false b (p + j) = bitL b (p + j) := rfl
      rw [hbb]
      have HC2 := Lib.hid (hC.trans hC2)
      have HR2 := Lib.hid hR2
      clear hC hC2 hR hR2 b2
      go_wp2_with fail
      go_roundw
      case rel => exact ⟨j + 1, by omega, by go_num, val_i (orL_eq b p j (by omega)), HC2.out, HR2.out⟩
      case measure => simp [intOf]; omega
    · obtain rfl : j = k := by omega
      go_wp2_with fail
      go_ret2
      exact ⟨rfl, hC, hR⟩
set_option maxRecDepth 100000 in
set_option maxHeartbeats 1000000 in
theorem take_ref_no (hp : p ≤ 8 * n) (k : Int) (hk : askB k (8 * n - p) = false) (w : World) (h : Rf g A n cap b p hi sh w) :
    Calls Tryd.prog 30 #[.pointer (some ⟨g, 0, none⟩), .int .i64 k] w fun e w' => e = .returned (.tuple #[.int .i64 0, .bool false]) ∧ Chg [g] w w' ∧ Rf g A n cap b p hi true w' := by
  simp only [askB, decide_eq_false_iff_not] at hk
  have c3 := hp_cell (j := 3) h.box rfl
  have ff := fun j => hp_froz h.box j
  have fin : ∀ m, Chg [g] w ((w.drewN m).setCell ⟨g, 3, none⟩ (.bool true)) ∧ Rf g A n cap b p hi true ((w.drewN m).setCell ⟨g, 3, none⟩ (.bool true)) := fun m => by
    have hc2 : Chg [g] w ((w.drewN m).setCell ⟨g, 3, none⟩ (.bool true)) := ((Chg.refl _ w).drewN m).set (.inl (by simp)) _ _
    exact ⟨hc2, h.move hc2 (heap_set (W := w.drewN m) (i := 3) (x := .bool true) h.box)⟩
  have HF := Lib.hid fin
  clear fin
  go_enter Tryd.func30, Tryd.ntmps30
  by_cases d1 : k < 0
  · go_wp2
    go_ret2
    exact ⟨rfl, HF.out 0⟩
  by_cases d2 : 24 < k
  · go_wp2
    go_ret2
    exact ⟨rfl, HF.out 0⟩
  have d1 : decide (k < 0) = false := by simp; omega
  have d2 : decide (24 < k) = false := by simp; omega
  go_wp2_with fail
  refine (left_ref g A n cap b p hi sh hn hp _ h).mono ?_
  rintro e w1 ⟨rfl, m, rfl⟩
  have d3 : decide (((8 * n - p : Nat) : Int) < k) = true := by simp; omega
  go_wp2
  go_ret2
  exact ⟨rfl, HF.out m⟩
end
end Go.Proofs.YtdooefnckdklmaaDoor

namespace Go.Proofs.YtdooefnckdklmaaDoor
set_option maxRecDepth 100000
set_option linter.unusedVariables false
open Go.ChangeShapes Go.WideShapes Go.ChangeAt Go.RowKit

set_option maxRecDepth 100000 in
set_option maxHeartbeats 2000000 in
theorem same14_ok (a b : Int) (A : Option Addr) (n cap : Nat) (c : Nat → Nat) (a' b' : Int) (A' : Option Addr) (n' cap' : Nat) (c' : Nat → Nat) (ha : In64 a) (hb : In64 b) (ha' : In64 a') (hb' : In64 b') (hn : n ≤ cap) (hmax : cap ≤ maxLen) (hn' : n' ≤ cap') (hmax' : cap' ≤ maxLen) (w : World) (hP : Pix w A n c) (hP' : Pix w A' n' c') :
    Calls Tryd.prog 13 #[.agg #[.int .i64 a, .int .i64 b, .slice A n cap], .int .i64 0, .agg #[.int .i64 a', .int .i64 b', .slice A' n' cap'], .int .i64 0] w fun e w' => e = .returned (.bool (sameB a b n c a' b' n' c')) ∧ Below w.heap.size w w' := by
  obtain ⟨q0, q1, q2, q4⟩ := two_boxes w #[.int .i64 a, .int .i64 b, .slice A n cap] #[.int .i64 a', .int .i64 b', .slice A' n' cap'] 26 26
  have k0 := hp_cell (j := 0) q1 rfl
  have k1 := hp_cell (j := 1) q1 rfl
  have k2 := hp_cell (j := 2) q1 rfl
  have j0 := hp_cell (j := 0) q2 rfl
  have j1 := hp_cell (j := 1) q2 rfl
  have j2 := hp_cell (j := 2) q2 rfl
  have HB := Lib.hid q4
  have HP := Lib.hid (hP.below q4)
  have HP' := Lib.hid (hP'.below q4)
  clear hP hP' q4 q0 q1 q2
  go_enter Tryd.func13, Tryd.ntmps13
  go_wp2_with fail
  refine (same_ref a b A n cap c a' b' A' n' cap' c' ha hb ha' hb' hn hmax hn' hmax' _ HP.out HP'.out).mono ?_
  rintro e w2 ⟨rfl, hB2⟩
  have HF := Lib.hid (HB.out.trans (hB2.mono HB.out.size))
  clear hB2 k0 k1 k2 j0 j1 j2
  go_wp2
  go_ret
  exact ⟨rfl, HF.out⟩
set_option maxRecDepth 100000 in
set_option maxHeartbeats 2000000 in
theorem same14_err (q : Nat) (hq : q ≠ 0) (hq2 : q < 1000) (x y : Int) (A : Option Addr) (n cap : Nat) (w : World) :
    Calls Tryd.prog 13 #[.agg #[.int .i64 0, .int .i64 0, .slice none 0 0], .int .i64 (q : Nat), .agg #[.int .i64 x, .int .i64 y, .slice A n cap], .int .i64 (q : Nat)] w fun e w' => e = .returned (.bool true) ∧ Below w.heap.size w w' := by
  obtain ⟨q0, q1, q2, q4⟩ := two_boxes w #[.int .i64 0, .int .i64 0, .slice none 0 0] #[.int .i64 x, .int .i64 y, .slice A n cap] 26 26
  have k0 := hp_cell (j := 0) q1 rfl
  have k1 := hp_cell (j := 1) q1 rfl
  have k2 := hp_cell (j := 2) q1 rfl
  have HB := Lib.hid q4
  have t1 : ((q : Int) == 0) = false := beq_eq_false_iff_ne.2 (by omega)
  have t2 : ((q : Int) != 0) = true := by rw [bne, t1]; rfl
  have t3 : ((q : Int) != (q : Int)) = false := by simp
  clear q4 q0 q1 q2
  go_enter Tryd.func13, Tryd.ntmps13
  go_wp2
  go_ret
  exact ⟨rfl, HB.out⟩
end Go.Proofs.YtdooefnckdklmaaDoor

namespace Go.Proofs.YtdooefnckdklmaaDoor
set_option maxRecDepth 100000
set_option linter.unusedVariables false
open Go.ChangeShapes Go.WideShapes Go.ChangeAt Go.RowKit

def up1 (c : Nat → Nat) (k v j : Nat) : Nat := if j = k then v else c j
theorem own_put {B : Nat} {w : World} {g n : Nat} {c : Nat → Nat} (h : Own B w (some ⟨g, 0, none⟩) n c) (i v : Nat) : Own B (w.setCell ⟨g, i, none⟩ (.int .u16 (v : Nat))) (some ⟨g, 0, none⟩) n (up1 c i v) := fun hn => by
  obtain ⟨g', cur, he, hB, hg, hs, hc⟩ := h hn
  cases he
  refine ⟨g, _, rfl, hB, heap_set hg, by simpa using hs, fun j hj => ?_⟩
  rw [Array.getElem?_setIfInBounds]
  by_cases hE : i = j
  · subst hE
    rw [if_pos rfl, if_pos (by omega)]
    simp [up1]
  · rw [if_neg hE, hc j hj]
    simp [up1, Ne.symm hE]
theorem own_cellP {B : Nat} {w : World} {g n : Nat} {c : Nat → Nat} (h : Own B w (some ⟨g, 0, none⟩) n c) {i : Nat} (hi : i < n) : w.cell? ⟨g, i, none⟩ = some (.int .u16 (c i : Nat)) ∧ w.frozen? ⟨g, i, none⟩ = false ∧ B ≤ g ∧ g < w.heap.size := by
  obtain ⟨g', cur, he, hB, hg, hs, hc⟩ := h (by omega)
  cases he
  exact ⟨hp_cell hg (hc i hi), hp_froz hg i, hB, lt_heap hg⟩
end Go.Proofs.YtdooefnckdklmaaDoor
