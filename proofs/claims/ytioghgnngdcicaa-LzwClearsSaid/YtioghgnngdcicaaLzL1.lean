/- LzwReads: the walk. -/
import Derived.Test.YtioghgnngdcicaaLzA
namespace Go.Proofs.Ytioghgnngdcicaa
set_option linter.unusedVariables false
open Go.ChangeShapes Go.WideShapes Go.ChangeAt Go.RowKit

theorem finC_len (b : Nat → Nat) (n cl sz most : Nat) (k : Nat) : ∀ s : Cz, s.out.length ≤ most → (finC b n cl sz most k s).1.length ≤ most := by
  induction k with
  | zero => intro s _; simp [finC]
  | succ k ih =>
    intro s hs
    rw [finC]
    split
    · simp
    · split
      · exact ih _ hs
      · split
        · exact hs
        · split
          · simp
          · split
            · simp
            · exact ih _ (by show (s.out ++ _).length ≤ most; rw [List.length_append]; omega)
theorem lzwV_len (b : Nat → Nat) (n : Nat) (size most : Int) : (lzwV b n size most).1.length ≤ most.toNat := by
  unfold lzwV
  split
  · simp
  · exact finC_len _ _ _ _ _ _ _ (by simp [cz0])
set_option maxRecDepth 100000 in
set_option maxHeartbeats 4000000 in
theorem reads_walk (A : Option Addr) (n cap : Nat) (b : Nat → Nat) (hbt : ∀ i, b i < 256) (h1 : n ≤ cap) (h2 : cap ≤ maxLen) (h3 : A = none → cap = 0) (size most : Int) (hs : In64 size) (hm : In64 most) (w : World) (hP : Byt w A n b) :
    Calls Try.prog 3 #[.slice A n cap, .int .i64 size, .int .i64 most] w fun e w' => e = .returned (.bool true) ∧ Below w.heap.size w w' := by
  go_enter Try.func3, Try.ntmps3
  go_wp2_with fail
  refine (awake7 _).mono ?_
  rintro e w1 ⟨rfl, hB1⟩
  have hP1 := hP.below hB1
  have HB1 := Lib.hid hB1
  clear hB1
  unfold In64 at hs hm
  by_cases c1 : 12000 < n
  · have d1 : decide (12000 < n) = true := by simp; omega
    have d2 : decide ((12000 : Int) < (n : Int)) = true := by simp; omega
    go_wp2
    go_ret
    exact ⟨rfl, HB1.out⟩
  have d1 : decide (12000 < n) = false := by simp; omega
  have d2 : decide ((12000 : Int) < (n : Int)) = false := by simp; omega
  by_cases c2 : 131072 < most
  · have d3 : decide (131072 < most) = true := by simp; omega
    go_wp2
    go_ret
    exact ⟨rfl, HB1.out⟩
  have d3 : decide (131072 < most) = false := by simp; omega
  go_wp2_with fail
  refine (read_lzw A n cap b hbt h1 h2 h3 (by omega) size most (by omega) _ hP1).mono ?_
  rintro e w2 ⟨A2, cap2, rfl, hN2, hB2⟩
  have hP2 := hP1.below hB2
  have HB2 := Lib.hid (HB1.out.trans (hB2.mono HB1.out.size))
  have HN2 := Lib.hid hN2
  clear hB2 hN2 hP1
  go_wp2_with fail
  refine (read_ref A n cap b hbt h1 h2 h3 (by omega) size most (by omega) _ hP2).mono ?_
  rintro e w3 ⟨A3, cap3, rfl, hN3, hB3⟩
  have HN3 := Lib.hid hN3
  have HN2' := Lib.hid (HN2.out.chgB hB3)
  have HB3 := Lib.hid (HB2.out.trans (hB3.mono HB2.out.size))
  clear hB3 hN3 hP2 HN2 HB1 HB2
  obtain ⟨r1, hr1⟩ : ∃ r, r = (lzwV b n size most).1 := ⟨_, rfl⟩
  obtain ⟨r2, hr2⟩ : ∃ r, r = (lzwV b n size most).2 := ⟨_, rfl⟩
  rw [← hr1] at HN2' HN3 ⊢
  rw [← hr2]
  obtain ⟨m, hmm⟩ : ∃ m, m = r1.length := ⟨_, rfl⟩
  rw [← hmm] at HN2' HN3 ⊢
  have g1 := run_str (cap := cap2) HN2'.out.byt
  have g2 := run_str (cap := cap3) HN3.out.byt
  have g3 := ba_beq (strB m (gz r1))
  clear hr1 hr2 hmm
  go_wp2
  go_ret
  exact ⟨rfl, HB3.out⟩
end Go.Proofs.Ytioghgnngdcicaa
