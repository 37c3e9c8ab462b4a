/- A new reader of GIF's codes; Read. -/
import Derived.Test.YtioghgnngdcicaaLzV
namespace Go.Proofs.Ytioghgnngdcicaa
set_option linter.unusedVariables false
open Go.ChangeShapes Go.WideShapes Go.ChangeAt Go.RowKit

/-- A reader that is told off: its end from the beginning. -/
structure LzBad (g : Nat) (w : World) : Prop where
  c8 : w.cell? ⟨g, 8, none⟩ = some (.slice none 0 0)
  c9 : w.cell? ⟨g, 9, none⟩ = some (.bool true)
  c10 : w.cell? ⟨g, 10, none⟩ = some (.int .i64 1)
  c0 : ∃ a, w.cell? ⟨g, 0, none⟩ = some (.pointer (some a))
def mayB (size most : Int) : Bool := decide (2 ≤ size ∧ size ≤ 8 ∧ 0 ≤ most)
theorem lzwV_no (b : Nat → Nat) (n : Nat) (size most : Int) (h : mayB size most = false) : lzwV b n size most = ([], 1) := by
  unfold mayB at h
  simp at h
  unfold lzwV
  rw [if_pos (by omega)]
theorem lzwV_yes (b : Nat → Nat) (n sz most : Nat) (h1 : 2 ≤ sz) (h2 : sz ≤ 8) : lzwV b n sz most = finC b n (2 ^ sz) sz most (8 * n + 1) (cz0 sz) := by
  unfold lzwV
  rw [if_neg (by omega)]
  rfl
set_option maxRecDepth 100000 in
set_option maxHeartbeats 1000000 in
theorem newr_no (A : Option Addr) (n cap : Nat) (b : Nat → Nat) (hn : n ≤ cap) (hmax : cap ≤ maxLen) (hz : A = none → cap = 0) (hsmall : n ≤ 1000000) (size most : Int) (hm : mayB size most = false) (w : World) (hP : Byt w A n b) :
    Calls Try.prog 14 #[.slice A n cap, .int .i64 size, .int .i64 most] w fun e w' => ∃ g, e = .returned (.pointer (some ⟨g, 0, none⟩)) ∧ LzBad g w' ∧ Below w.heap.size w w' := by
  unfold mayB at hm
  go_enter Try.func14, Try.ntmps14
  go_wp2_with fail
  refine (newL2 A n cap b hn hmax hz hsmall _ hP).mono ?_
  rintro e w1 ⟨gl, A', cap', rfl, hge, hR, hA, hf, hB⟩
  have HB := Lib.hid hB
  clear hB hR hA hf
  go_wp2_with fail
  refine (may_w size _).mono ?_
  rintro e w2 ⟨rfl, rfl⟩
  by_cases h1 : 2 ≤ size ∧ size ≤ 8
  · have d1 : decide (2 ≤ size ∧ size ≤ 8) = true := by simp; exact h1
    have d2 : decide (most < 0) = true := by simp at hm ⊢; omega
    rw [d1]
    go_wp2
    go_ret
    exact ⟨_, rfl, ⟨hp_cell (j := 8) (hp_new0 _ _) rfl, hp_cell (j := 9) (hp_new0 _ _) rfl, hp_cell (j := 10) (hp_new0 _ _) rfl, ⟨_, hp_cell (j := 0) (hp_new0 _ _) rfl⟩⟩, HB.out.alloc HB.out.size _⟩
  · have d1 : decide (2 ≤ size ∧ size ≤ 8) = false := by simp; omega
    rw [d1]
    go_wp2
    go_ret
    exact ⟨_, rfl, ⟨hp_cell (j := 8) (hp_new0 _ _) rfl, hp_cell (j := 9) (hp_new0 _ _) rfl, hp_cell (j := 10) (hp_new0 _ _) rfl, ⟨_, hp_cell (j := 0) (hp_new0 _ _) rfl⟩⟩, HB.out.alloc HB.out.size _⟩
set_option maxRecDepth 100000 in
set_option maxHeartbeats 1000000 in
theorem newr_yes (A : Option Addr) (n cap : Nat) (b : Nat → Nat) (hn : n ≤ cap) (hmax : cap ≤ maxLen) (hz : A = none → cap = 0) (hsmall : n ≤ 1000000) (sz most : Nat) (h1 : 2 ≤ sz) (h2 : sz ≤ 8) (w : World) (hP : Byt w A n b) :
    Calls Try.prog 14 #[.slice A n cap, .int .i64 (sz : Nat), .int .i64 (most : Nat)] w fun e w' => ∃ g gl A' cap' S k, e = .returned (.pointer (some ⟨g, 0, none⟩)) ∧ LzF g gl A' n cap' b most sz (2 ^ sz) (lzwV b n sz most) k 0 false S w' ∧ (∀ x ∈ S, w.heap.size ≤ x) ∧ Below w.heap.size w w' := by
  go_enter Try.func14, Try.ntmps14
  go_wp2_with fail
  refine (newL2 A n cap b hn hmax hz hsmall _ hP).mono ?_
  rintro e w1 ⟨gl, A', cap', rfl, hge, hR, hA, hf, hB⟩
  have hgl := lt_heap hR.box
  have HB := Lib.hid hB
  have HR := Lib.hid hR
  have HA := Lib.hid hA
  clear hB hR hA hf
  go_wp2_with fail
  refine (may_w (sz : Nat) _).mono ?_
  rintro e w2 ⟨rfl, rfl⟩
  have d1 : decide (2 ≤ (sz : Int) ∧ (sz : Int) ≤ 8) = true := by simp; omega
  have d2 : decide ((most : Int) < 0) = false := by simp
  rw [d1]
  obtain ⟨wB, hwB⟩ : ∃ wB, wB = w1.alloc (.cells #[.pointer (some ⟨gl, 0, none⟩), .int .i64 (most : Nat), .int .i64 (sz : Nat), .int .i64 0, .int .i64 0, .slice none 0 0, .int .i64 (-1), .slice none 0 0, .slice none 0 0, .bool false, .int .i64 0] 70) := ⟨_, rfl⟩
  have hb := hp_new0 w1 (.cells #[.pointer (some ⟨gl, 0, none⟩), .int .i64 (most : Nat), .int .i64 (sz : Nat), .int .i64 0, .int .i64 0, .slice none 0 0, .int .i64 (-1), .slice none 0 0, .slice none 0 0, .bool false, .int .i64 0] 70)
  rw [← hwB] at hb
  have hsz : wB.heap.size = w1.heap.size + 1 := by rw [hwB]; simp
  have hBB : Below w.heap.size w wB := by rw [hwB]; exact HB.out.alloc HB.out.size _
  have hRB : Rd 76 gl A' n cap' b 0 (.slice none 0 0) 0 wB := by rw [hwB]; exact HR.out.alloc _
  have hW3 : W3 w1.heap.size 2 sz 0 0 wB := ⟨hp_cell (j := 2) hb rfl, hp_cell (j := 3) hb rfl, hp_cell (j := 4) hb rfl, fun j => hp_froz hb j⟩
  have HW := Lib.hid hwB
  have HBX := Lib.hid hb
  have HBB := Lib.hid hBB
  have HRB := Lib.hid hRB
  have hw1 := HB.out.size
  clear hwB hb hBB hRB
  go_wp2_with fail
  rw [← HW.out]
  refine (reset_w w1.heap.size 2 sz 0 0 h2 _ hW3).mono ?_
  rintro e w2 ⟨rfl, hS⟩
  have hb2 := hS.blk _ _ HBX.out
  have hmem : LzMem w1.heap.size gl A' n cap' b 0 (.slice none 0 0) (.slice none 0 0) (.slice none 0 0) [] [] [] [w1.heap.size, gl] wB :=
    ⟨HRB.out, World.ownsRow_nil _ _ _ _, World.ownsRow_nil _ _ _ _, ⟨none, 0, rfl, Nat.le_refl _, by simp [maxLen], fun _ => rfl, (fun h => by simp at h), (fun a h => by cases h)⟩, (fun k h => by cases h), hgl, (fun a h => (HA.out a h).2), by omega, by simp, by simp, (fun k h => by cases h), (fun k h => by cases h), fun k hk => by simp at hk; omega⟩
  have hm2 := hmem.setG hS.chg (by simp)
  have HB2 := Lib.hid hb2
  have HM2 := Lib.hid hm2
  have HC2 := Lib.hid (HBB.out.trans (hS.chg.below (B := w.heap.size) (by omega) (fun k hk => by simp at hk; omega)))
  clear hS hb2 hm2 hmem hW3
  go_wp2
  go_ret
  have hgd := good0 n sz h1 h2
  refine ⟨w1.heap.size, gl, A', cap', [w1.heap.size, gl], _, rfl, ⟨cz0 sz, [], 0, ⟨⟨.slice none 0 0, .slice none 0 0, .slice none 0 0, -1, [], HB2.out, HM2.out, ⟨hgd, ⟨rfl, fun i r hi => by simp [cz0] at hi⟩, fun _ => rfl, fun l h => by cases h⟩⟩, by simp⟩, by simp [cz0], rfl, rfl, (fun h => by cases h), fun _ => ⟨rfl, 8 * n + 1, by simp [cz0], .inr ⟨by simp [cz0], ?_⟩⟩⟩, fun x hx => by simp at hx; omega, HC2.out⟩
  rw [lzwV_yes b n sz most h1 h2]
  rfl
end Go.Proofs.Ytioghgnngdcicaa
