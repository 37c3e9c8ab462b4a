/- DepthFits: the walk. -/
import Derived.Test.YtpfpfklmmcejbaaFitR
import Derived.Test.YtpfpfklmmcejbaaAw9
import Derived.Deep.RegionHeld3
namespace Go.Proofs.Ytpfpfklmmcejbaa
set_option linter.unusedVariables false
open Go.ChangeShapes Go.WideShapes Go.ChangeAt Go.RowKit

set_option maxRecDepth 100000 in
set_option maxHeartbeats 1000000 in
theorem dfits_walk (a b : Int) (A : Option Addr) (n cap : Nat) (c : Nat → Nat) (hc : ∀ i, c i < 65536) (f : Int) (hf : In64 f) (ha : In64 a) (hb : In64 b) (hn : n ≤ cap) (hmax : cap ≤ maxLen) (w : World) (hP : Pix w A n c) :
    Calls Try.prog 6 #[.agg #[.int .i64 a, .int .i64 b, .slice A n cap], .int .i64 f] w fun e w' => e = .returned (.bool true) ∧ Below w.heap.size w w' := by
  have HC := Lib.hid hc
  clear hc
  have hbx := hp_new0 w (.cells #[.int .i64 a, .int .i64 b, .slice A n cap] 40)
  have hB0 : Below w.heap.size w (w.alloc (.cells #[.int .i64 a, .int .i64 b, .slice A n cap] 40)) := (Below.refl _ _).alloc (Nat.le_refl _) _
  have hP1 := hP.below hB0
  have HB := Lib.hid hB0
  clear hB0 hP
  go_enter Try.func6, Try.ntmps6
  go_wp2_with fail
  refine (awake9 _).mono ?_
  rintro e w1 ⟨rfl, rfl⟩
  unfold maxLen at hmax
  by_cases h8 : 8000 < n
  · have t8 : decide ((8000 : Int) < (n : Int)) = true := by simp; omega
    go_wp2
    go_ret
    exact ⟨rfl, HB.out⟩
  · have t8 : decide ((8000 : Int) < (n : Int)) = false := by simp; omega
    have k0 := hp_cell (j := 0) hbx rfl
    have k1 := hp_cell (j := 1) hbx rfl
    have k2 := hp_cell (j := 2) hbx rfl
    have hmx : cap ≤ maxLen := by unfold maxLen; omega
    have e1 : (fitsB a b n c f == fitsB a b n c f) = true := by simp
    have kB : Below (w.heap.size + 1) (w.alloc (.cells #[.int .i64 a, .int .i64 b, .slice A n cap] 40)) (w.alloc (.cells #[.int .i64 a, .int .i64 b, .slice A n cap] 40)).drew := (Below.refl _ _).drew
    have HP1 := Lib.hid hP1
    clear hbx hP1
    go_wp2_with fail
    go_region_held3 (fun w' => w'.cell? ⟨w.heap.size, 0, none⟩ = some (.int .i64 a) ∧ w'.cell? ⟨w.heap.size, 1, none⟩ = some (.int .i64 b) ∧ w'.cell? ⟨w.heap.size, 2, none⟩ = some (.slice A n cap) ∧ Below (w.heap.size + 1) (w.alloc (.cells #[.int .i64 a, .int .i64 b, .slice A n cap] 40)) w')
      (first | go_keep | (go_split_ands; refine ⟨?_, ?_, ?_, ?_⟩ <;> first | assumption | (refine below_keep hB ?_; assumption) | (refine keep_below ?_ hB; assumption)))
      (first | (go_at_call 19; refine (fits_prog a b A n cap c f HC.out ha hb hf hn hmx _ (pixB HP1.out (by first | assumption | (go_split_ands; assumption)))).mono ?_; rintro e w9 ⟨rfl, hB⟩) | (go_at_call 20; refine (fits_ref a b A n cap c f HC.out ha hb hf hn hmx _ (pixB HP1.out (by first | assumption | (go_split_ands; assumption)))).mono ?_; rintro e w9 ⟨rfl, hB⟩))
    all_goals
      have KB : Below (w.heap.size + 1) (w.alloc (.cells #[.int .i64 a, .int .i64 b, .slice A n cap] 40)) w9 := by first | assumption | (go_split_ands; assumption)
      go_wp2
      go_ret
      exact ⟨rfl, HB.out.trans (KB.mono (by have := HB.out.size; rwa [World.size_alloc] at this))⟩
end Go.Proofs.Ytpfpfklmmcejbaa
