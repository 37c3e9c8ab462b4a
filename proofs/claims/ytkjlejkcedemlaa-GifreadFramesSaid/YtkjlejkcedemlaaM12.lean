/- GIF: what a file comes to, by the document: plain words. engraverref14.table: colours of three bytes each. engraverref14.Rows: the order of a laced picture's rows. What gifwrite writes is read again by the document: the plain law. gifwrite.Encode. Plain laws for a frame's drawing. -/
import Derived.Test.YtkjlejkcedemlaaM11
import Derived.StillTailTactics
namespace Go.Proofs.Ytkjlejkcedemlaa
set_option maxRecDepth 100000
set_option linter.unusedVariables false

/-- Colours of three bytes each. -/
def tabC (b : Nat → Nat) (p n : Nat) : List P4 := (List.range n).map fun i => (b (p + 3 * i) * 257, b (p + 3 * i + 1) * 257, b (p + 3 * i + 2) * 257, 65535)
def stepG (h from_ step : Nat) : List Nat := (List.range ((h - from_ + step - 1) / step)).map fun i => from_ + step * i
/-- The order of a laced picture's rows. -/
def rowsG (h : Nat) : List Nat := stepG h 0 8 ++ stepG h 4 8 ++ stepG h 2 4 ++ stepG h 1 2
/-- Places drawn from the i-th on. -/
def drawG (W fw left top : Nat) (laced : Bool) (rows : List Nat) (cols : List P4) (clear : Int) : List Nat → Nat → (Nat → Nat) → Option (Nat → Nat)
  | [], _, c => some c
  | k :: ps, i, c =>
    if (k : Int) = clear then drawG W fw left top laced rows cols clear ps (i + 1) c
    else if cols.length ≤ k then none
    else drawG W fw left top laced rows cols clear ps (i + 1) (setC c ((top + (if laced = true then gz rows (i / fw) else i / fw)) * W + (left + i % fw)) ((cols[k]?).getD (0, 0, 0, 0)))
def noP : Nat → Nat := fun _ => 0
/-- The places of a frame, drawn. -/
def pixG (b : Nat → Nat) (n p W H left top fw fh : Nat) (laced : Bool) (cols : List P4) (clear : Int) : (Nat → Nat) × Nat :=
  if cols = [] then (noP, 4)
  else if n ≤ p then (noP, 2)
  else if b p < 2 ∨ 8 < b p then (noP, 4)
  else if (unV (fun i => b (p + 1 + i)) (n - (p + 1))).2.2 ≠ 0 then (noP, (unV (fun i => b (p + 1 + i)) (n - (p + 1))).2.2)
  else if (lzwV (gz (unV (fun i => b (p + 1 + i)) (n - (p + 1))).1) (unV (fun i => b (p + 1 + i)) (n - (p + 1))).1.length (b p : Nat) ((fw * fh : Nat) : Int)).2 ≠ 0 then (noP, (lzwV (gz (unV (fun i => b (p + 1 + i)) (n - (p + 1))).1) (unV (fun i => b (p + 1 + i)) (n - (p + 1))).1.length (b p : Nat) ((fw * fh : Nat) : Int)).2)
  else if (lzwV (gz (unV (fun i => b (p + 1 + i)) (n - (p + 1))).1) (unV (fun i => b (p + 1 + i)) (n - (p + 1))).1.length (b p : Nat) ((fw * fh : Nat) : Int)).1.length < fw * fh then (noP, 2)
  else match drawG W fw left top laced (rowsG fh) cols clear (lzwV (gz (unV (fun i => b (p + 1 + i)) (n - (p + 1))).1) (unV (fun i => b (p + 1 + i)) (n - (p + 1))).1.length (b p : Nat) ((fw * fh : Nat) : Int)).1 0 noP with
    | none => (noP, 4)
    | some c => (c, 0)
/-- A frame that begins at p (behind its mark). -/
def frameG (b : Nat → Nat) (n p W H : Nat) (cols : List P4) (clear : Int) : (Nat → Nat) × Nat :=
  if n < p + 9 then (noP, 2)
  else if lowD b (p + 4) 2 = 0 ∨ lowD b (p + 6) 2 = 0 ∨ W < lowD b p 2 + lowD b (p + 4) 2 ∨ H < lowD b (p + 2) 2 + lowD b (p + 6) 2 then (noP, 4)
  else if b (p + 8) / 128 = 1 then
    if n < p + 9 + 3 * 2 ^ (b (p + 8) % 8 + 1) then (noP, 2)
    else pixG b n (p + 9 + 3 * 2 ^ (b (p + 8) % 8 + 1)) W H (lowD b p 2) (lowD b (p + 2) 2) (lowD b (p + 4) 2) (lowD b (p + 6) 2) (decide (b (p + 8) / 64 % 2 = 1)) (tabC b (p + 9) (2 ^ (b (p + 8) % 8 + 1))) clear
  else pixG b n (p + 9) W H (lowD b p 2) (lowD b (p + 2) 2) (lowD b (p + 4) 2) (lowD b (p + 6) 2) (decide (b (p + 8) / 64 % 2 = 1)) cols clear
/-- What is told ahead of the first frame. -/
def partsG (b : Nat → Nat) (n W H : Nat) (cols : List P4) : Nat → Nat → Int → (Nat → Nat) × Nat
  | 0, _, _ => (noP, 2)
  | K + 1, p, clear =>
    if n ≤ p then (noP, 2)
    else if b p = 44 then frameG b n (p + 1) W H cols clear
    else if b p ≠ 33 then (noP, 4)
    else if n ≤ p + 1 then (noP, 2)
    else if (unV (fun i => b (p + 2 + i)) (n - (p + 2))).2.2 ≠ 0 then (noP, (unV (fun i => b (p + 2 + i)) (n - (p + 2))).2.2)
    else if b (p + 1) = 249 then
      if (unV (fun i => b (p + 2 + i)) (n - (p + 2))).1.length ≠ 4 then (noP, 4)
      else partsG b n W H cols K (p + 2 + (unV (fun i => b (p + 2 + i)) (n - (p + 2))).2.1) (if gz (unV (fun i => b (p + 2 + i)) (n - (p + 2))).1 0 % 2 = 1 then ((gz (unV (fun i => b (p + 2 + i)) (n - (p + 2))).1 3 : Nat) : Int) else -1)
    else partsG b n W H cols K (p + 2 + (unV (fun i => b (p + 2 + i)) (n - (p + 2))).2.1) clear
def isGif (b : Nat → Nat) : Bool := decide (b 0 = 71 ∧ b 1 = 73 ∧ b 2 = 70 ∧ b 3 = 56 ∧ (b 4 = 55 ∨ b 4 = 57) ∧ b 5 = 97)
/-- A file: the picture's samples, or the error. Its sides stand at 6 and 8. -/
def gifG (b : Nat → Nat) (n : Nat) : (Nat → Nat) × Nat :=
  if 262144 < n then (noP, 3)
  else if n < 13 then (noP, 2)
  else if isGif b = false then (noP, 4)
  else if sizeE (lowD b 6 2 : Nat) (lowD b 8 2 : Nat) ≠ 0 then (noP, 6)
  else if b 10 / 128 = 1 then
    if n < 13 + 3 * 2 ^ (b 10 % 8 + 1) then (noP, 2)
    else partsG b n (lowD b 6 2) (lowD b 8 2) (tabC b 13 (2 ^ (b 10 % 8 + 1))) (n + 1) (13 + 3 * 2 ^ (b 10 % 8 + 1)) (-1)
  else partsG b n (lowD b 6 2) (lowD b 8 2) [] (n + 1) 13 (-1)
end Go.Proofs.Ytkjlejkcedemlaa

namespace Go.Proofs.Ytkjlejkcedemlaa
set_option maxRecDepth 100000
set_option linter.unusedVariables false
open Go.ChangeShapes Go.WideShapes Go.ChangeAt Go.RowKit

theorem tabC_succ (b : Nat → Nat) (p i : Nat) : tabC b p (i + 1) = tabC b p i ++ [(b (p + 3 * i) * 257, b (p + 3 * i + 1) * 257, b (p + 3 * i + 2) * 257, 65535)] := by
  unfold tabC
  rw [List.range_succ, List.map_append]
  rfl
theorem tabC_len (b : Nat → Nat) (p i : Nat) : (tabC b p i).length = i := by simp [tabC]
set_option maxHeartbeats 2000000 in
theorem table_ref (A : Option Addr) (m cap : Nat) (b : Nat → Nat) (hbt : ∀ i, b i < 256) (hm : m ≤ cap) (hmax : cap ≤ maxLen) (hsm : m ≤ 1000) (w : World) (hP : Byt w A m b) :
    Calls Try.prog 26 #[.slice A m cap] w fun e w' => ∃ v, e = .returned v ∧ w'.ownsRow w.heap.size 47 4 v (m / 3) (cellsP (tabC b 0 (m / 3))) ∧ Below w.heap.size w w' := by
  obtain ⟨i0, hi, hz0, hz1, hz2⟩ := info_parts info41
  unfold maxLen at hmax
  go_enter Try.func26, Try.ntmps26
  go_wp2_with fail
  go_loopw [3, 4] (fun s3 s4 wr => ∃ i : Nat, i ≤ m / 3 ∧ s4 = .int .i64 ((3 * i : Nat) : Int) ∧ wr.ownsRow w.heap.size 47 4 s3 i (cellsP (tabC b 0 i)) ∧ Below w.heap.size w wr) (fun _ s4 _ => m - (intOf s4).toNat)
  case atStart => exact ⟨0, by omega, rfl, World.ownsRow_nil _ _ _ _, Below.refl _ _⟩
  case round =>
    obtain ⟨i, him, rfl, hown, hB⟩ := hrel
    obtain ⟨-, Ao, co, rfl, p1, p2, -⟩ := Sl.of_own hown
    by_cases hlt : i < m / 3
    · obtain ⟨bk, off, rfl, hbk, hc⟩ := hP.below hB (by omega)
      have c0 := hc (3 * i) (by omega)
      have c1 := hc (3 * i + 1) (by omega)
      have c2 := hc (3 * i + 2) (by omega)
      have b0 := hbt (3 * i)
      have b1 := hbt (3 * i + 1)
      have b2 := hbt (3 * i + 2)
      have hsc := tabC_succ b 0 i
      rw [Nat.zero_add] at hsc
      obtain ⟨x0, hx0⟩ : ∃ x, x = b (3 * i) := ⟨_, rfl⟩
      obtain ⟨x1, hx1⟩ : ∃ x, x = b (3 * i + 1) := ⟨_, rfl⟩
      obtain ⟨x2, hx2⟩ : ∃ x, x = b (3 * i + 2) := ⟨_, rfl⟩
      rw [← hx0] at c0 b0 hsc
      rw [← hx1] at c1 b1 hsc
      rw [← hx2] at c2 b2 hsc
      obtain ⟨q, hq⟩ : ∃ q, q = 3 * i := ⟨_, rfl⟩
      rw [← hq] at c0 c1 c2 ⊢
      have hqm : q + 2 < m := by omega
      have j0 : (0 : Int) ≤ (q : Int) := by omega
      have j1 : (q : Int) < (m : Int) := by omega
      have j2 : (0 : Int) ≤ (q : Int) + 1 := by omega
      have j3 : (q : Int) + 1 < (m : Int) := by omega
      have j4 : (0 : Int) ≤ (q : Int) + 2 := by omega
      have j5 : (q : Int) + 2 < (m : Int) := by omega
      have j6 : ((q : Int) + 1).toNat = q + 1 := by omega
      have j7 : ((q : Int) + 2).toNat = q + 2 := by omega
      obtain ⟨W, hW⟩ : ∃ W, W = ((wr.alloc (.cells #[.int .u16 ((x0 : Int) * 257), .int .u16 ((x1 : Int) * 257), .int .u16 ((x2 : Int) * 257), .int .u16 65535] 47)).drew) := ⟨_, rfl⟩
      have hbw := hp_new0 wr (.cells #[.int .u16 ((x0 : Int) * 257), .int .u16 ((x1 : Int) * 257), .int .u16 ((x2 : Int) * 257), .int .u16 65535] 47)
      have hBW : Below w.heap.size w W := by rw [hW]; exact (hB.alloc hB.size _).drew
      have hoW : W.ownsRow w.heap.size 47 4 (.slice Ao i co) i (cellsP (tabC b 0 i)) := by rw [hW]; exact hown.alloc _
      have hbw' : W.heap[wr.heap.size]? = some (.cells #[.int .u16 ((x0 : Int) * 257), .int .u16 ((x1 : Int) * 257), .int .u16 ((x2 : Int) * 257), .int .u16 65535] 47 (0, 0)) := by rw [hW]; exact hbw
      have hsW := hBW.size
      obtain ⟨v2, W2, r2, o2, g2, _⟩ := run_app (P := Try.prog) (w := W) w.heap.size 58 58 47 i0 zero4 4 8 Try.underlying58 hi hz0 hz1 hz2 rfl (by omega) (.slice Ao i co) i (cellsP (tabC b 0 i)) hoW
        (some ⟨wr.heap.size, 0, none⟩) 1 1 (cP (x0 * 257, x1 * 257, x2 * 257, 65535)) (by simp) rfl (fun _ => ⟨wr.heap.size, 0, rfl, fun j u hj => by
          match j, hj with
          | 0, hj => simp [cP] at hj; subst hj; exact hp_cell (j := 0) hbw' (by simp)
          | 1, hj => simp [cP] at hj; subst hj; exact hp_cell (j := 1) hbw' (by simp)
          | 2, hj => simp [cP] at hj; subst hj; exact hp_cell (j := 2) hbw' (by simp)
          | 3, hj => simp [cP] at hj; subst hj; exact hp_cell (j := 3) hbw' (by simp)
          | j + 4, hj => simp [cP] at hj⟩) (by intro u hu; simp [cP] at hu; rcases hu with rfl | rfl | rfl | rfl <;> rfl) (by unfold maxLen; omega) (by omega) (by omega)
      rw [← cellsP_snoc, ← hsc] at o2
      have hB2 := bel_grown hBW g2 (fun r hr => (hown.lt r hr).1) (by omega)
      rw [hW] at r2
      have HO2 := Lib.hid o2
      have HB2 := Lib.hid hB2
      have HR2 := Lib.hid r2
      have hm3 : Hid (m - (q + 3) < m - q) := Lib.hid (by omega)
      have hl2 : wr.heap.size ≤ W.heap.size := by rw [hW]; simp
      have G0 := Lib.hid (show wr.drew.cell? ⟨bk, off + q, none⟩ = some (.int .u8 (x0 : Nat)) ∧ wr.drew.cell? ⟨bk, off + (q + 1), none⟩ = some (.int .u8 (x1 : Nat)) ∧ wr.drew.cell? ⟨bk, off + (q + 2), none⟩ = some (.int .u8 (x2 : Nat)) from ⟨c0, c1, c2⟩)
      have hBa : Below wr.heap.size wr ((wr.alloc (.cells #[.int .u16 ((x0 : Int) * 257), .int .u16 ((x1 : Int) * 257), .int .u16 ((x2 : Int) * 257), .int .u16 65535] 47)).drew) := ((Below.refl _ wr).alloc (Nat.le_refl _) _).drew
      have G1 := Lib.hid (show ((wr.alloc (.cells #[.int .u16 ((x0 : Int) * 257), .int .u16 ((x1 : Int) * 257), .int .u16 ((x2 : Int) * 257), .int .u16 65535] 47)).drew).cell? ⟨bk, off + q, none⟩ = some (.int .u8 (x0 : Nat)) ∧ ((wr.alloc (.cells #[.int .u16 ((x0 : Int) * 257), .int .u16 ((x1 : Int) * 257), .int .u16 ((x2 : Int) * 257), .int .u16 65535] 47)).drew).cell? ⟨bk, off + (q + 1), none⟩ = some (.int .u8 (x1 : Nat)) ∧ ((wr.alloc (.cells #[.int .u16 ((x0 : Int) * 257), .int .u16 ((x1 : Int) * 257), .int .u16 ((x2 : Int) * 257), .int .u16 65535] 47)).drew).cell? ⟨bk, off + (q + 2), none⟩ = some (.int .u8 (x2 : Nat)) from ⟨(hBa.cell hbk).trans c0, (hBa.cell hbk).trans c1, (hBa.cell hbk).trans c2⟩)
      have hP2 := hP.below hB2
      obtain ⟨bk2, off2, he2, hbk2, hc2⟩ := hP2 (by omega)
      injection he2 with he2
      injection he2 with u1 u2
      subst u1 u2
      have G2 := Lib.hid (show W2.cell? ⟨bk, off + q, none⟩ = some (.int .u8 (x0 : Nat)) ∧ W2.cell? ⟨bk, off + (q + 1), none⟩ = some (.int .u8 (x1 : Nat)) ∧ W2.cell? ⟨bk, off + (q + 2), none⟩ = some (.int .u8 (x2 : Nat)) from ⟨by have := hc2 (3 * i) (by omega); rw [← hx0, ← hq] at this; exact this, by have := hc2 (3 * i + 1) (by omega); rw [← hx1, ← hq] at this; exact this, by have := hc2 (3 * i + 2) (by omega); rw [← hx2, ← hq] at this; exact this⟩)
      have HQ := Lib.hid hq
      clear hP2 hbk2 hc2 hBa hl2 hW hbw hbw' hBW hoW hsW g2 o2 hB2 r2 hsc hx0 hx1 hx2 hq hown hB hc
      have y1 : IntKind.i64.wrap ((q : Int) + 1) = (q : Int) + 1 := IntWalk.i64_in _ (by omega)
      have y2 : IntKind.i64.wrap ((q : Int) + 2) = (q : Int) + 2 := IntWalk.i64_in _ (by omega)
      have W16 : ∀ x : Nat, x < 256 → IntKind.u16.wrap ((x : Nat) : Int) = (x : Nat) ∧ IntKind.u16.wrap (((x : Nat) : Int) * 257) = ((x * 257 : Nat) : Int) := fun x hx => by rw [IntKind.wrap_u16, IntKind.wrap_u16]; omega
      obtain ⟨z0, z0'⟩ := W16 x0 b0
      obtain ⟨z1, z1'⟩ := W16 x1 b1
      obtain ⟨z2, z2'⟩ := W16 x2 b2
      clear W16
      go_wp2_with fail
      go_region_held3 (fun w' => w'.cell? ⟨bk, off + q, none⟩ = some (.int .u8 (x0 : Nat)) ∧ w'.cell? ⟨bk, off + (q + 1), none⟩ = some (.int .u8 (x1 : Nat)) ∧ w'.cell? ⟨bk, off + (q + 2), none⟩ = some (.int .u8 (x2 : Nat)))
        (first | with_reducible exact G0.out | with_reducible exact G1.out | with_reducible exact G2.out)
        (first | ((with_reducible refine step_app (o := ⟨some 35, _, _, _, _, _⟩) ?_ (.tmp 12) (.tmp 34) 58 ?_ _ _ _ _ ?_ ?_ HR2.out ?_); rfl; rfl; rfl; rfl) | fail)
      go_wp2_with fail
      clear y1 y2 z0 z0' z1 z1' z2 z2'
      go_roundw
      case rel => exact ⟨i + 1, by omega, by have := HQ.out; go_num, HO2.out, HB2.out⟩
      case measure => have := hm3.out; simp [intOf]; omega
    · obtain rfl : i = m / 3 := by omega
      have HO := Lib.hid hown
      have HB := Lib.hid hB
      obtain ⟨q, hq⟩ : ∃ q, q = 3 * (m / 3) := ⟨_, rfl⟩
      have hqm : ¬ q + 2 < m := by omega
      have hq1 : q ≤ 1000 := by omega
      have t1 : decide ((q : Int) + 2 < (m : Int)) = false := by simp; omega
      rw [← hq]
      clear hown hB hq
      go_wp2
      go_ret
      exact ⟨_, rfl, HO.out, HB.out⟩
end Go.Proofs.Ytkjlejkcedemlaa

namespace Go.Proofs.Ytkjlejkcedemlaa
set_option maxRecDepth 100000
set_option linter.unusedVariables false
open Go.ChangeShapes Go.WideShapes Go.ChangeAt Go.RowKit

def fK (k : Nat) : Nat := if k = 0 then 0 else if k = 1 then 4 else if k = 2 then 2 else 1
def sK (k : Nat) : Nat := if k = 0 then 8 else if k = 1 then 8 else if k = 2 then 4 else 2
def preG (h k : Nat) : List Nat := ((List.range k).map fun t => stepG h (fK t) (sK t)).flatten
theorem preG_succ (h k : Nat) : preG h (k + 1) = preG h k ++ stepG h (fK k) (sK k) := by
  unfold preG
  rw [List.range_succ, List.map_append, List.flatten_append]
  simp
theorem rowsG_eq (h : Nat) : rowsG h = preG h 4 := by
  simp only [preG_succ]
  simp [rowsG, preG, fK, sK]
theorem step_lt (h k j : Nat) : fK k + sK k * j < h ↔ j < (h - fK k + sK k - 1) / sK k := by
  unfold fK sK
  split
  · omega
  · split
    · omega
    · split <;> omega
def stepJ (h k j : Nat) : List Nat := (List.range j).map fun i => fK k + sK k * i
theorem stepJ_succ (h k j : Nat) : stepJ h k (j + 1) = stepJ h k j ++ [fK k + sK k * j] := by
  unfold stepJ
  rw [List.range_succ, List.map_append]
  rfl
theorem stepJ_all (h k j : Nat) (h1 : ¬ fK k + sK k * j < h) (h2 : j = 0 ∨ fK k + sK k * (j - 1) < h) : stepJ h k j = stepG h (fK k) (sK k) := by
  have e : j = (h - fK k + sK k - 1) / sK k := by
    rw [step_lt] at h1
    rw [step_lt] at h2
    obtain ⟨D, hD⟩ : ∃ D, D = (h - fK k + sK k - 1) / sK k := ⟨_, rfl⟩
    rw [← hD] at h1 h2 ⊢
    rcases h2 with h2 | h2 <;> omega
  rw [e]
  rfl
theorem fK_le (k : Nat) : fK k ≤ 4 ∧ 2 ≤ sK k ∧ sK k ≤ 8 := by
  unfold fK sK
  split
  · omega
  · split
    · omega
    · split <;> omega
theorem stepG_len (h k : Nat) (hh : h ≤ 256) : (stepG h (fK k) (sK k)).length ≤ 128 := by
  have e : (stepG h (fK k) (sK k)).length = (h - fK k + sK k - 1) / sK k := by simp [stepG]
  rw [e]
  unfold fK sK
  split
  · omega
  · split
    · omega
    · split <;> omega
theorem preG_len (h k : Nat) (hh : h ≤ 256) : (preG h k).length ≤ 128 * k := by
  induction k with
  | zero => simp [preG]
  | succ k ih =>
    have := stepG_len h k hh
    rw [preG_succ, List.length_append]
    omega
/-- The two rows of four, and what is made. -/
def RwR (w0 : World) (h k : Nat) (s3 : Value) (l : List Nat) (w : World) : Prop :=
  w.heap[w0.heap.size]? = some (.cells #[.int .i64 0, .int .i64 4, .int .i64 2, .int .i64 1] 3 (0, 0)) ∧ w.heap[w0.heap.size + 1]? = some (.cells #[.int .i64 8, .int .i64 8, .int .i64 4, .int .i64 2] 3 (0, 0)) ∧
  w.ownsRow (w0.heap.size + 2) 3 1 s3 l.length (cellsI l) ∧ Below w0.heap.size w0 w ∧ w0.heap.size + 2 ≤ w.heap.size
theorem fK_cell {k : Nat} (hk : k < 4) : (#[Value.int .i64 0, .int .i64 4, .int .i64 2, .int .i64 1] : Array Value)[k]? = some (.int .i64 (fK k : Nat)) := by
  match k, hk with
  | 0, _ => rfl
  | 1, _ => rfl
  | 2, _ => rfl
  | 3, _ => rfl
theorem sK_cell {k : Nat} (hk : k < 4) : (#[Value.int .i64 8, .int .i64 8, .int .i64 4, .int .i64 2] : Array Value)[k]? = some (.int .i64 (sK k : Nat)) := by
  match k, hk with
  | 0, _ => rfl
  | 1, _ => rfl
  | 2, _ => rfl
  | 3, _ => rfl
/-- A number behind a row of one's own. -/
theorem app_int {W : World} {base : Nat} {v : Value} {l : List Nat} {x B : Nat} (h : W.ownsRow base 3 1 v l.length (cellsI l)) (hx : W.cell? ⟨B, 0, none⟩ = some (.int .i64 (x : Nat))) (hl : l.length ≤ 100000) (hb : base ≤ W.heap.size) :
    ∃ v' W1, (Builtin.append_ #[34, 34] 34 #[v, .slice (some ⟨B, 0, none⟩) 1 1]).run Try.prog W = .ok v' W1 ∧ W1.ownsRow base 3 1 v' (l ++ [x]).length (cellsI (l ++ [x])) ∧ W.grownBy W1 v.ownBlock := by
  obtain ⟨i0, hi, hz0, hz1, hz2⟩ := info_parts info_int
  obtain ⟨v', W1, hr, ho, hg, hat⟩ := run_app (P := Try.prog) (w := W) base 34 34 3 i0 (.int .i64 0) 1 8 Try.underlying34 hi hz0 hz1 hz2 rfl (by omega) v l.length (cellsI l) h
    (some ⟨B, 0, none⟩) 1 1 [.int .i64 (x : Nat)] (by simp) rfl (fun _ => ⟨B, 0, rfl, fun j u hj => by
      match j, hj with
      | 0, hj => simp at hj; subst hj; exact hx
      | j + 1, hj => simp at hj⟩) (by intro u hu; simp at hu; subst hu; rfl) (by unfold maxLen; omega) (by omega) hb
  rw [← cellsI_snoc] at ho
  exact ⟨v', W1, hr, own_len (by simp) ho, hg⟩
theorem RwR.app {w0 : World} {h k : Nat} {s3 : Value} {l : List Nat} {w : World} (hR : RwR w0 h k s3 l w) (hl : l.length ≤ 100000) (x : Nat) :
    ∃ v' W1, (Builtin.append_ #[34, 34] 34 #[s3, .slice (some ⟨w.heap.size, 0, none⟩) 1 1]).run Try.prog (w.alloc (.cells #[.int .i64 (x : Nat)] 3)) = .ok v' W1 ∧ RwR w0 h k v' (l ++ [x]) W1 := by
  obtain ⟨h1, h2, h3, h4, h5⟩ := hR
  have hl1 := lt_heap h1
  have hl2 := lt_heap h2
  obtain ⟨v', W1, hr, ho, hg⟩ := app_int (x := x) (B := w.heap.size) (h3.alloc (.cells #[.int .i64 (x : Nat)] 3)) (hp_cell (j := 0) (hp_new0 w _) rfl) hl (by simp; omega)
  have hge : ∀ r, s3.ownBlock = some r → w0.heap.size + 2 ≤ r := fun r hr => (h3.lt r hr).1
  refine ⟨v', W1, hr, (hg.block _ (by simp; omega) (fun e => by have := hge _ e.symm; omega)).trans (hp_alloc _ h1), (hg.block _ (by simp; omega) (fun e => by have := hge _ e.symm; omega)).trans (hp_alloc _ h2), ho, bel_grown (h4.alloc h4.size _) hg (fun r hr => by have := hge r hr; omega) (by have := h4.size; simp; omega), ?_⟩
  have := hg.size
  simp at this
  omega
set_option maxHeartbeats 2000000 in
theorem rows_ref (h : Nat) (h1 : 1 ≤ h) (h2 : h ≤ 256) (w : World) :
    Calls Try.prog 13 #[.int .i64 (h : Nat)] w fun e w' => ∃ v, e = .returned v ∧ w'.ownsRow w.heap.size 3 1 v (rowsG h).length (cellsI (rowsG h)) ∧ Below w.heap.size w w' := by
  have H0 : Hid (RwR w h 0 (.slice none 0 0) (preG h 0) ((w.alloc (.cells #[.int .i64 0, .int .i64 4, .int .i64 2, .int .i64 1] 3)).alloc (.cells #[.int .i64 8, .int .i64 8, .int .i64 4, .int .i64 2] 3))) :=
    Lib.hid ⟨hp_alloc _ (hp_new0 _ _), by have := hp_new0 (w.alloc (.cells #[.int .i64 0, .int .i64 4, .int .i64 2, .int .i64 1] 3)) (.cells #[.int .i64 8, .int .i64 8, .int .i64 4, .int .i64 2] 3); simpa using this, World.ownsRow_nil _ _ _ _, ((Below.refl _ w).alloc (Nat.le_refl _) _).alloc (by simp) _, by simp⟩
  go_enter Try.func13, Try.ntmps13
  go_wp2_with fail
  go_loopw [3, 6] (fun s3 s6 wr => ∃ (k : Nat) (v3 : Value), v3 = s3 ∧ k ≤ 4 ∧ s6 = .int .i64 (k : Nat) ∧ RwR w h k v3 (preG h k) wr) (fun _ s6 _ => 4 - (intOf s6).toNat)
  case atStart => exact ⟨0, _, rfl, by omega, rfl, H0.out⟩
  case round =>
    clear H0
    obtain ⟨k, v3, hv3, hk, rfl, hR⟩ := hrel
    subst hv3
    have hpl := preG_len h k h2
    by_cases hlt : k < 4
    · have t4 : decide (k < 4) = true := by simp; omega
      have t4' : decide ((k : Int) < 4) = true := by simp; omega
      have cf := hp_cell hR.1 (fK_cell hlt)
      have HK := Lib.hid (fK_le k)
      have hf := HK.out.1
      obtain ⟨F, hF⟩ : ∃ F, F = fK k := ⟨_, rfl⟩
      rw [← hF] at cf hf
      have HF := Lib.hid hF
      have HR := Lib.hid hR
      have H1 : Hid (RwR w h k v3 (preG h k ++ stepJ h k 0) wr) := Lib.hid (by simpa [stepJ] using hR)
      clear hR hF
      go_wp2_with fail
      go_loopw [3, 7] (fun s3 s7 wx => ∃ (j : Nat) (v4 : Value), v4 = s3 ∧ s7 = .int .i64 ((fK k + sK k * j : Nat) : Int) ∧ (j = 0 ∨ fK k + sK k * (j - 1) < h) ∧ RwR w h k v4 (preG h k ++ stepJ h k j) wx) (fun _ s7 _ => h + 20 - (intOf s7).toNat)
      case atStart => exact ⟨0, _, rfl, by rw [HF.out]; simp, .inl rfl, H1.out⟩
      case round =>
        clear H1 cf HR
        obtain ⟨j, v4, hv4, rfl, hj, hR⟩ := hrel
        subst hv4
        have hjl : j ≤ 256 := by
          have := HK.out
          rcases hj with hz | hz
          · omega
          · have h9 : 2 * (j - 1) ≤ sK k * (j - 1) := Nat.mul_le_mul_right _ this.2.1
            omega
        have hyb : fK k + sK k * j ≤ 300 := by
          have := HK.out
          rcases hj with hz | hz
          · subst hz; omega
          · rcases Nat.eq_zero_or_pos j with h0 | h0
            · subst h0; omega
            · obtain ⟨i, rfl⟩ : ∃ i, j = i + 1 := ⟨j - 1, by omega⟩
              rw [Nat.mul_add, Nat.mul_one]
              rw [Nat.add_sub_cancel] at hz
              omega
        obtain ⟨y, hy⟩ : ∃ y, y = fK k + sK k * j := ⟨_, rfl⟩
        rw [← hy] at hyb ⊢
        have hsl : (preG h k ++ stepJ h k j).length ≤ 100000 := by
          rw [List.length_append]
          have : (stepJ h k j).length = j := by simp [stepJ]
          omega
        by_cases hlt2 : y < h
        · have hsb := HK.out.2.2
          obtain ⟨S, hS⟩ : ∃ S, S = sK k := ⟨_, rfl⟩
          have hsa := HK.out.2.1
          have cs := hp_cell hR.2.1 (sK_cell hlt)
          obtain ⟨v', W1, hr, hR2⟩ := hR.app hsl y
          have cs2 := hp_cell hR2.2.1 (sK_cell hlt)
          rw [← hS] at cs2 hsb hsa
          rw [List.append_assoc, hy, ← stepJ_succ] at hR2
          have HR2 := Lib.hid hR2
          have HRUN := Lib.hid hr
          have hnx : y + S = fK k + sK k * (j + 1) := by rw [hy, hS, Nat.mul_add]; omega
          have HNX := Lib.hid hnx
          have HLT : Hid (fK k + sK k * (j + 1 - 1) < h) := Lib.hid (by rw [Nat.add_sub_cancel, ← hy]; exact hlt2)
          clear hR hR2 hr cs hy hS hnx hsl hj
          go_wp2_with (at_builtin; refine wpList_app rfl _ _ 34 rfl _ _ _ _ rfl rfl HRUN.out ?_)
          go_roundw
          case rel => exact ⟨j + 1, _, rfl, by rw [← HNX.out]; go_num, .inr HLT.out, HR2.out⟩
          case measure => simp [intOf]; omega
        · have hall := stepJ_all h k j (by rw [← hy]; exact hlt2) hj
          rw [hall, ← preG_succ] at hR
          have HR := Lib.hid hR
          clear hR hall hy hj hsl
          go_wp2_with fail
          go_roundw
          case rel => exact ⟨k + 1, _, rfl, by omega, by go_num, HR.out⟩
          case measure => simp [intOf]; omega
    · obtain rfl : k = 4 := by omega
      obtain ⟨g1, g2, g3, g4, g5⟩ := hR
      rw [← rowsG_eq] at g3
      have HB := Lib.hid g4
      have hown := own_le2 (b' := w.heap.size) (by omega) g3
      have HG := Lib.hid hown
      clear g1 g2 g3 g4 hown
      go_wp2_with fail
      go_ret
      exact ⟨_, rfl, HG.out, HB.out⟩
end Go.Proofs.Ytkjlejkcedemlaa

namespace Go.Proofs.Ytkjlejkcedemlaa
set_option maxRecDepth 100000
set_option linter.unusedVariables false

/-- A picture's file: its sides, the colours, which is clear, how many bits, the places. -/
def gifE (W H : Nat) (L : List P4) (cl : Int) (bb : Nat) (idx : List Nat) : List Nat :=
  ([71, 73, 70, 56, 57, 97] ++ (num2 W ++ num2 H) ++ [127 + bb, 0, 0]) ++ (tabR L (3 * 2 ^ bb) (3 * L.length) ++ ((if 0 ≤ cl then [33, 249, 4, 1, 0, 0, cl.toNat % 256, 0] else []) ++ (([44, 0, 0, 0, 0] ++ (num2 W ++ num2 H) ++ [0, max 2 bb]) ++ (blkV (lzwE (max 2 bb) idx) ++ [59]))))
theorem gz_at (pre suf : List Nat) (q k : Nat) (h : q = pre.length) : gz (pre ++ suf) (q + k) = gz suf k := by
  rw [h]
  exact gz_append_right pre suf k
theorem gz_at0 (pre suf : List Nat) (q : Nat) (h : q = pre.length) : gz (pre ++ suf) q = gz suf 0 := by
  have := gz_at pre suf q 0 h
  rwa [Nat.add_zero] at this
theorem low_two (d : Nat → Nat) (p : Nat) : lowD d p 2 = d p + 256 * d (p + 1) := by simp [lowD]
theorem num2_val {n : Nat} (h : n < 65536) : n % 256 + 256 * (n / 256 % 256) = n := by omega
/-- Places that are drawn whole. -/
theorem draw_all (W : Nat) (hW : 0 < W) (cols : List P4) (clear : Int) (c : Nat → Nat) (idx : List Nat)
    (hk : ∀ i, i < idx.length → ((gz idx i : Nat) : Int) ≠ clear → gz idx i < cols.length ∧ (cols[gz idx i]?).getD (0, 0, 0, 0) = p4 c i)
    (hc : ∀ i, i < idx.length → ((gz idx i : Nat) : Int) = clear → p4 c i = (0, 0, 0, 0)) :
    ∃ d, drawG W W 0 0 false (rowsG 0) cols clear idx 0 noP = some d ∧ ∀ t, t < 4 * idx.length → d t = c t := by
  have key : ∀ (ps : List Nat) (j : Nat) (e : Nat → Nat), ps = idx.drop j → j ≤ idx.length → (∀ t, t < 4 * j → e t = c t) → (∀ t, 4 * j ≤ t → e t = 0) → ∃ d, drawG W W 0 0 false (rowsG 0) cols clear ps j e = some d ∧ ∀ t, t < 4 * idx.length → d t = c t := by
    intro ps
    induction ps with
    | nil =>
      intro j e hps hj h1 _
      have hl := congrArg List.length hps
      rw [List.length_drop, List.length_nil] at hl
      exact ⟨e, rfl, fun t ht => h1 t (by omega)⟩
    | cons k ps ih =>
      intro j e hps hj h1 h2
      have hl := congrArg List.length hps
      rw [List.length_drop, List.length_cons] at hl
      have hjl : j < idx.length := by omega
      have hk0 : gz idx j = k := by
        have := congrArg (fun l => l[0]?) hps
        simp only [List.getElem?_cons_zero, List.getElem?_drop, Nat.add_zero] at this
        unfold gz
        rw [← this]
        rfl
      have hps2 : ps = idx.drop (j + 1) := by
        have := congrArg List.tail hps
        simpa [List.tail_drop] using this
      rw [drawG]
      by_cases hcl : (k : Int) = clear
      · rw [if_pos hcl]
        have hz := hc j hjl (by rw [hk0]; exact hcl)
        refine ih (j + 1) e hps2 (by omega) (fun t ht => ?_) (fun t ht => h2 t (by omega))
        by_cases h9 : t < 4 * j
        · exact h1 t h9
        · rw [h2 t (by omega)]
          unfold p4 at hz
          injection hz with z0 hz
          injection hz with z1 hz
          injection hz with z2 z3
          have : t = 4 * j ∨ t = 4 * j + 1 ∨ t = 4 * j + 2 ∨ t = 4 * j + 3 := by omega
          rcases this with rfl | rfl | rfl | rfl
          · exact z0.symm
          · exact z1.symm
          · exact z2.symm
          · exact z3.symm
      · rw [if_neg hcl]
        obtain ⟨g1, g2⟩ := hk j hjl (by rw [hk0]; exact hcl)
        rw [hk0] at g1 g2
        rw [if_neg (by omega), g2]
        have hpos : (0 + (if (false : Bool) = true then gz (rowsG 0) (j / W) else j / W)) * W + (0 + j % W) = j := by
          simp only [Bool.false_eq_true, if_false, Nat.zero_add]
          rw [Nat.mul_comm]
          exact Nat.div_add_mod j W
        rw [hpos]
        refine ih (j + 1) _ hps2 (by omega) (fun t ht => ?_) (fun t ht => ?_)
        · unfold setC p4
          by_cases e0 : t = 4 * j
          · rw [if_pos e0, e0]
          · rw [if_neg e0]
            by_cases e1 : t = 4 * j + 1
            · rw [if_pos e1, e1]
            · rw [if_neg e1]
              by_cases e2 : t = 4 * j + 2
              · rw [if_pos e2, e2]
              · rw [if_neg e2]
                by_cases e3 : t = 4 * j + 3
                · rw [if_pos e3, e3]
                · rw [if_neg e3]
                  exact h1 t (by omega)
        · unfold setC
          rw [if_neg (by omega), if_neg (by omega), if_neg (by omega), if_neg (by omega)]
          exact h2 t (by omega)
  exact key idx 0 noP (by simp) (by omega) (fun t ht => by omega) (fun t _ => rfl)
/-- A colour table that was written is read. -/
theorem tabC_get (L : List P4) (pre suf : List Nat) (M n j : Nat) (hp : 13 = pre.length) (hM : 3 * n ≤ M) (hL : L.length ≤ n) (hj : j < L.length)
    (h1 : ((L[j]?).getD (0, 0, 0, 0)).1 % 257 = 0) (h2 : ((L[j]?).getD (0, 0, 0, 0)).2.1 % 257 = 0) (h3 : ((L[j]?).getD (0, 0, 0, 0)).2.2.1 % 257 = 0) (h4 : ((L[j]?).getD (0, 0, 0, 0)).2.2.2 = 65535) :
    ((tabC (gz (pre ++ (tabR L M (3 * L.length) ++ suf))) 13 n)[j]?).getD (0, 0, 0, 0) = (L[j]?).getD (0, 0, 0, 0) := by
  have hg : ∀ k, k < 3 → gz (pre ++ (tabR L M (3 * L.length) ++ suf)) (13 + (3 * j + k)) = part4 ((L[j]?).getD (0, 0, 0, 0)) k / 257 := fun k hk => by
    rw [gz_at _ _ _ _ hp, gz_append_left (by rw [tabR_len]; omega)]
    unfold gz tabR
    rw [List.getElem?_map, List.getElem?_range (by omega)]
    simp only [Option.map_some, Option.getD_some]
    rw [if_pos (by omega)]
    unfold tbB
    rw [show (3 * j + k) / 3 = j by omega, show (3 * j + k) % 3 = k by omega]
  have g0 := hg 0 (by omega)
  have g1 := hg 1 (by omega)
  have g2 := hg 2 (by omega)
  unfold tabC
  rw [List.getElem?_map, List.getElem?_range (by omega)]
  simp only [Option.map_some, Option.getD_some]
  rw [show 13 + 3 * j = 13 + (3 * j + 0) by omega, g0, show 13 + (3 * j + 0) + 1 = 13 + (3 * j + 1) by omega, g1, show 13 + (3 * j + 0) + 2 = 13 + (3 * j + 2) by omega, g2]
  generalize (L[j]?).getD (0, 0, 0, 0) = q at *
  obtain ⟨a, b, c, d⟩ := q
  simp only [part4] at *
  simp only [Prod.mk.injEq]
  refine ⟨?_, ?_, ?_, h4.symm⟩
  · simp; omega
  · simp; omega
  · simp; omega
/-- What is asked of a picture's colours and places. -/
structure GifOk (W H : Nat) (c : Nat → Nat) (L : List P4) (cl : Int) (bb : Nat) (idx : List Nat) : Prop where
  w1 : 1 ≤ W
  w2 : W ≤ 256
  h1 : 1 ≤ H
  h2 : H ≤ 256
  n2 : W * H ≤ 16384
  b1 : 1 ≤ bb
  b2 : bb ≤ 8
  lb : L.length ≤ 2 ^ bb
  lx : idx.length = W * H
  ix : ∀ i, i < W * H → gz idx i < L.length ∧ (L[gz idx i]?).getD (0, 0, 0, 0) = p4 c i
  ci : ∀ j, j < L.length → ((j : Int) = cl ↔ (L[j]?).getD (0, 0, 0, 0) = (0, 0, 0, 0))
  cr : -1 ≤ cl ∧ cl < 256
  co : ∀ j, j < L.length → (L[j]?).getD (0, 0, 0, 0) ≠ (0, 0, 0, 0) → ((L[j]?).getD (0, 0, 0, 0)).1 % 257 = 0 ∧ ((L[j]?).getD (0, 0, 0, 0)).2.1 % 257 = 0 ∧ ((L[j]?).getD (0, 0, 0, 0)).2.2.1 % 257 = 0 ∧ ((L[j]?).getD (0, 0, 0, 0)).2.2.2 = 65535
section
variable {W H : Nat} {c : Nat → Nat} {L : List P4} {cl : Int} {bb : Nat} {idx : List Nat}
theorem GifOk.lt (h : GifOk W H c L cl bb idx) : ∀ v ∈ idx, v < 2 ^ max 2 bb := fun v hv => by
  obtain ⟨i, hi, rfl⟩ := List.mem_iff_getElem.1 hv
  have h1 := (h.ix i (by rw [← h.lx]; exact hi)).1
  have h2 := h.lb
  have h3 : 2 ^ bb ≤ 2 ^ max 2 bb := Nat.pow_le_pow_right (by omega) (by omega)
  unfold gz at h1
  rw [List.getElem?_eq_getElem hi, Option.getD_some] at h1
  omega
/-- The frame's own part. -/
theorem frame_back (h : GifOk W H c L cl bb idx) (pre : List Nat) (cols : List P4) (hcols : cols ≠ [])
    (hcc : ∀ j, j < L.length → (j : Int) ≠ cl → j < cols.length ∧ (cols[j]?).getD (0, 0, 0, 0) = (L[j]?).getD (0, 0, 0, 0)) (b : Nat → Nat) (n p : Nat)
    (hb : b = gz (pre ++ (([44, 0, 0, 0, 0] ++ (num2 W ++ num2 H) ++ [0, max 2 bb]) ++ (blkV (lzwE (max 2 bb) idx) ++ [59])))) (hn : n = (pre ++ (([44, 0, 0, 0, 0] ++ (num2 W ++ num2 H) ++ [0, max 2 bb]) ++ (blkV (lzwE (max 2 bb) idx) ++ [59]))).length) (hp : p = pre.length) :
    b p = 44 ∧ ∃ d, frameG b n (p + 1) W H cols cl = (d, 0) ∧ ∀ t, t < 4 * (W * H) → d t = c t := by
  have hw1 := h.w1
  have hw2 := h.w2
  have hh1 := h.h1
  have hh2 := h.h2
  have hb1 := h.b1
  have hb2 := h.b2
  have hg : ∀ k, b (p + k) = gz (([44, 0, 0, 0, 0] ++ (num2 W ++ num2 H) ++ [0, max 2 bb]) ++ (blkV (lzwE (max 2 bb) idx) ++ [59])) k := fun k => by rw [hb]; exact gz_at _ _ _ _ hp
  have hg0 : b p = 44 := by have := hg 0; rwa [Nat.add_zero] at this
  have f1 : ∀ k, b (p + 1 + k) = b (p + (1 + k)) := fun k => by rw [Nat.add_assoc]
  have e1 := hg 1
  have e2 := hg 2
  have e3 := hg 3
  have e4 := hg 4
  have e5 := hg 5
  have e6 := hg 6
  have e7 := hg 7
  have e8 := hg 8
  have e9 := hg 9
  have e10 := hg 10
  simp [gz, num2] at e1 e2 e3 e4 e5 e6 e7 e8 e9 e10
  have hlow : ∀ q, lowD b q 2 = b q + 256 * b (q + 1) := low_two b
  have l0 : lowD b (p + 1) 2 = 0 := by rw [hlow, e1, show p + 1 + 1 = p + 2 by omega, e2]
  have l1 : lowD b (p + 1 + 2) 2 = 0 := by rw [hlow, show p + 1 + 2 = p + 3 by omega, e3, show p + 3 + 1 = p + 4 by omega, e4]
  have l2 : lowD b (p + 1 + 4) 2 = W := by rw [hlow, show p + 1 + 4 = p + 5 by omega, e5, show p + 5 + 1 = p + 6 by omega, e6]; omega
  have l3 : lowD b (p + 1 + 6) 2 = H := by rw [hlow, show p + 1 + 6 = p + 7 by omega, e7, show p + 7 + 1 = p + 8 by omega, e8]; omega
  have l4 : b (p + 1 + 8) = 0 := by rw [show p + 1 + 8 = p + 9 by omega]; exact e9
  have l5 : b (p + 1 + 9) = max 2 bb := by rw [show p + 1 + 9 = p + 10 by omega]; exact e10
  obtain ⟨z, hz⟩ : ∃ z, z = lzwE (max 2 bb) idx := ⟨_, rfl⟩
  have hnl : n = p + 11 + (blkV z).length + 1 := by rw [hn, hz, hp]; simp [num2]; omega
  have hsuf : (fun i => b (p + 1 + 9 + 1 + i)) = gz (blkV z ++ [59]) := by
    funext i
    rw [show p + 1 + 9 + 1 + i = p + (11 + i) by omega, hg, hz]
    have : ([44, 0, 0, 0, 0] ++ (num2 W ++ num2 H) ++ [0, max 2 bb]).length = 11 := by simp [num2]
    exact gz_at _ _ 11 i this.symm
  have hun : unV (fun i => b (p + 1 + 9 + 1 + i)) (n - (p + 1 + 9 + 1)) = (z, (blkV z).length, 0) := by
    rw [hsuf, show n - (p + 1 + 9 + 1) = (blkV z ++ [59]).length by rw [hnl]; simp; omega]
    exact un_back z [59]
  have hlz : lzwV (gz z) z.length ((max 2 bb : Nat) : Int) ((W * H : Nat) : Int) = (idx, 0) := by
    rw [hz]
    exact back_E (max 2 bb) (by omega) (by omega) idx h.lt (W * H) (by rw [h.lx]; exact Nat.le_refl _)
  have hdr := draw_all W (by omega) cols cl c idx (fun i hi hne => by
      have hi' : i < W * H := by rw [← h.lx]; exact hi
      obtain ⟨g1, g2⟩ := h.ix i hi'
      obtain ⟨k1, k2⟩ := hcc _ g1 hne
      exact ⟨k1, k2.trans g2⟩) (fun i hi he => by
      have hi' : i < W * H := by rw [← h.lx]; exact hi
      obtain ⟨g1, g2⟩ := h.ix i hi'
      exact g2.symm.trans (((h.ci _ g1).1 he)))
  have hdr' : ∃ d, drawG W W 0 0 false (rowsG H) cols cl idx 0 noP = some d ∧ ∀ t, t < 4 * idx.length → d t = c t := by
    have same : ∀ (ps : List Nat) (j : Nat) (e : Nat → Nat), drawG W W 0 0 false (rowsG H) cols cl ps j e = drawG W W 0 0 false (rowsG 0) cols cl ps j e := by
      intro ps
      induction ps with
      | nil => intro j e; rfl
      | cons k ps ih =>
        intro j e
        rw [drawG, drawG]
        simp only [Bool.false_eq_true, if_false, ih]
    rw [same]
    exact hdr
  obtain ⟨d, hd1, hd2⟩ := hdr'
  refine ⟨hg0, d, ?_, fun t ht => hd2 t (by rw [h.lx]; exact ht)⟩
  unfold frameG
  rw [if_neg (by omega), l0, l1, l2, l3, l4, if_neg (by omega), if_neg (by simp)]
  unfold pixG
  rw [if_neg hcols, if_neg (by omega), l5, if_neg (by omega), hun]
  dsimp only
  rw [if_neg (by simp), hlz]
  dsimp only
  rw [if_neg (by simp), if_neg (by rw [h.lx]; omega)]
  have hfl : decide ((0 : Nat) / 64 % 2 = 1) = false := by decide
  rw [hfl, hd1]
theorem blk_four (x : Nat) : blkV [1, 0, 0, x] = [4, 1, 0, 0, x, 0] := by simp [blkV, blkF]
/-- A file that was written is read as its picture. -/
theorem gif_back (h : GifOk W H c L cl bb idx) (hsz : sizeE (W : Nat) (H : Nat) = 0) (b : Nat → Nat) (n : Nat) (hb : b = gz (gifE W H L cl bb idx)) (hn : n = (gifE W H L cl bb idx).length) :
    lowD b 6 2 = W ∧ lowD b 8 2 = H ∧ n ≤ 9 * W * H + 2048 ∧ ∃ d, gifG b n = (d, 0) ∧ ∀ t, t < 4 * (W * H) → d t = c t := by
  have hw1 := h.w1
  have hw2 := h.w2
  have hh1 := h.h1
  have hh2 := h.h2
  have hb1 := h.b1
  have hb2 := h.b2
  have hlb := h.lb
  obtain ⟨P, hP⟩ : ∃ P, P = 2 ^ bb := ⟨_, rfl⟩
  have hP1 : 2 ≤ P := by rw [hP]; exact Nat.pow_le_pow_right (n := 2) (i := 1) (by omega) hb1
  have hP2 : P ≤ 256 := by rw [hP]; exact Nat.pow_le_pow_right (n := 2) (j := 8) (by omega) hb2
  obtain ⟨N, hN⟩ : ∃ N, N = W * H := ⟨_, rfl⟩
  have hN2 : N ≤ 16384 := by rw [hN]; exact h.n2
  have hN9 : 9 * W * H = 9 * N := by rw [hN, Nat.mul_assoc]
  have hzl := size_E (max 2 bb) (by omega) (by omega) idx (fun v hv => by
    have h1 := h.lt v hv
    have h2 : 2 ^ max 2 bb ≤ 2 ^ 8 := Nat.pow_le_pow_right (by omega) (by omega)
    omega)
  rw [h.lx, ← hN] at hzl
  obtain ⟨H13, h13⟩ : ∃ l, l = [71, 73, 70, 56, 57, 97] ++ (num2 W ++ num2 H) ++ [127 + bb, 0, 0] := ⟨_, rfl⟩
  obtain ⟨T, hT⟩ : ∃ l, l = tabR L (3 * 2 ^ bb) (3 * L.length) := ⟨_, rfl⟩
  obtain ⟨E, hE⟩ : ∃ l : List Nat, l = if 0 ≤ cl then [33, 249, 4, 1, 0, 0, cl.toNat % 256, 0] else [] := ⟨_, rfl⟩
  obtain ⟨R, hR⟩ : ∃ l, l = ([44, 0, 0, 0, 0] ++ (num2 W ++ num2 H) ++ [0, max 2 bb]) ++ (blkV (lzwE (max 2 bb) idx) ++ [59]) := ⟨_, rfl⟩
  have hF : gifE W H L cl bb idx = H13 ++ (T ++ (E ++ R)) := by rw [h13, hT, hE, hR]; rfl
  have h13l : H13.length = 13 := by rw [h13]; simp [num2]
  have hTl : T.length = 3 * P := by rw [hT, tabR_len, hP]
  have hEl : E.length ≤ 8 := by rw [hE]; split <;> simp
  have hRl : R.length = 11 + (blkV (lzwE (max 2 bb) idx)).length + 1 := by rw [hR]; simp [num2]; omega
  have hbl := blkV_len (lzwE (max 2 bb) idx)
  have hnl : n = 13 + 3 * P + E.length + R.length := by rw [hn, hF]; simp [h13l, hTl]; omega
  have hbk : ∀ k, k < 13 → b k = gz H13 k := fun k hk => by rw [hb, hF]; exact gz_append_left (by omega)
  have e0 := hbk 0 (by omega)
  have e1 := hbk 1 (by omega)
  have e2 := hbk 2 (by omega)
  have e3 := hbk 3 (by omega)
  have e4 := hbk 4 (by omega)
  have e5 := hbk 5 (by omega)
  have e6 := hbk 6 (by omega)
  have e7 := hbk 7 (by omega)
  have e8 := hbk 8 (by omega)
  have e9 := hbk 9 (by omega)
  have e10 := hbk 10 (by omega)
  rw [h13] at e0 e1 e2 e3 e4 e5 e6 e7 e8 e9 e10
  simp [gz, num2] at e0 e1 e2 e3 e4 e5 e6 e7 e8 e9 e10
  have l6 : lowD b 6 2 = W := by rw [low_two, e6, e7]; omega
  have l8 : lowD b 8 2 = H := by rw [low_two, e8, e9]; omega
  refine ⟨l6, l8, by rw [hN9]; omega, ?_⟩
  have hgif : isGif b = true := by
    unfold isGif
    rw [e0, e1, e2, e3, e4, e5]
    decide
  have hcols : tabC b 13 P ≠ [] := fun e => by
    have := congrArg List.length e
    rw [tabC_len] at this
    simp at this
    omega
  have hcc : ∀ j, j < L.length → (j : Int) ≠ cl → j < (tabC b 13 P).length ∧ ((tabC b 13 P)[j]?).getD (0, 0, 0, 0) = (L[j]?).getD (0, 0, 0, 0) := fun j hj hne => by
    refine ⟨by rw [tabC_len]; omega, ?_⟩
    obtain ⟨k1, k2, k3, k4⟩ := h.co j hj (fun e => hne ((h.ci j hj).2 e))
    rw [hb, hF, hT]
    exact tabC_get L H13 (E ++ R) (3 * 2 ^ bb) P j h13l.symm (by omega) (by omega) hj k1 k2 k3 k4
  have hgo : gifG b n = partsG b n W H (tabC b 13 P) (n + 1) (13 + 3 * P) (-1) := by
    unfold gifG
    rw [if_neg (by omega), if_neg (by omega), if_neg (by rw [hgif]; simp), l6, l8, if_neg (by rw [hsz]; simp), if_pos (by omega)]
    have e : b 10 % 8 + 1 = bb := by omega
    rw [e, ← hP, if_neg (by omega)]
  rw [hgo, ← hN]
  by_cases hcl : 0 ≤ cl
  · have hE8 : E = [33, 249, 4, 1, 0, 0, cl.toNat % 256, 0] := by rw [hE, if_pos hcl]
    have hcr := h.cr
    obtain ⟨x, rfl⟩ : ∃ x : Nat, cl = x := Int.eq_ofNat_of_zero_le hcl
    have hx : (x : Int).toNat % 256 = x := by omega
    rw [hx] at hE8
    have hEl8 : E.length = 8 := by rw [hE8]; rfl
    have hpre : b = gz ((H13 ++ T) ++ (E ++ R)) := by rw [hb, hF, List.append_assoc]
    have hpl : (H13 ++ T).length = 13 + 3 * P := by rw [List.length_append, h13l, hTl]
    have q0 : b (13 + 3 * P) = 33 := by rw [hpre, gz_at0 _ _ _ hpl.symm, gz_append_left (by omega), hE8]; rfl
    have q1 : b (13 + 3 * P + 1) = 249 := by rw [hpre, gz_at _ _ _ _ hpl.symm, gz_append_left (by omega), hE8]; rfl
    have hun : unV (fun i => b (13 + 3 * P + 2 + i)) (n - (13 + 3 * P + 2)) = ([1, 0, 0, x], 6, 0) := by
      have hs : (fun i => b (13 + 3 * P + 2 + i)) = gz (blkV [1, 0, 0, x] ++ R) := by
        funext i
        rw [blk_four, hpre, show 13 + 3 * P + 2 + i = 13 + 3 * P + (2 + i) by omega, gz_at _ _ _ _ hpl.symm, hE8]
        exact gz_at [33, 249] ([4, 1, 0, 0, x, 0] ++ R) 2 i rfl
      have hl : n - (13 + 3 * P + 2) = (blkV [1, 0, 0, x] ++ R).length := by rw [blk_four, List.length_append, hnl, hEl8]; simp; omega
      rw [hs, hl, un_back, blk_four]
      rfl
    obtain ⟨hf, d, hd1, hd2⟩ := frame_back h (H13 ++ T ++ E) (tabC b 13 P) hcols hcc b n (13 + 3 * P + 2 + 6) (by rw [hb, hF, hR]; simp) (by rw [hn, hF, hR]; simp) (by rw [List.length_append, hpl, hEl8])
    refine ⟨d, ?_, fun t ht => hd2 t (by rw [← hN]; exact ht)⟩
    rw [partsG, if_neg (by omega), q0, if_neg (by omega), if_neg (by omega), if_neg (by omega), hun]
    dsimp only
    rw [if_neg (by simp), q1, if_pos rfl, if_neg (by simp)]
    obtain ⟨K, hK⟩ : ∃ K, n = K + 1 := ⟨n - 1, by omega⟩
    have hgx : (if gz [1, 0, 0, x] 0 % 2 = 1 then ((gz [1, 0, 0, x] 3 : Nat) : Int) else -1) = (x : Int) := by
      have a0 : gz [1, 0, 0, x] 0 = 1 := rfl
      have a3 : gz [1, 0, 0, x] 3 = x := rfl
      rw [a0, a3, if_pos (by omega)]
    rw [hgx]
    have : partsG b n W H (tabC b 13 P) n (13 + 3 * P + 2 + 6) (x : Int) = frameG b n (13 + 3 * P + 2 + 6 + 1) W H (tabC b 13 P) (x : Int) := by
      conv => lhs; arg 6; rw [hK]
      rw [partsG, if_neg (by omega), if_pos hf]
    rw [this, hd1]
  · have hE0 : E = [] := by rw [hE, if_neg hcl]
    have hcr := h.cr
    obtain rfl : cl = -1 := by omega
    have hEl0 : E.length = 0 := by rw [hE0]; rfl
    obtain ⟨hf, d, hd1, hd2⟩ := frame_back h (H13 ++ T) (tabC b 13 P) hcols hcc b n (13 + 3 * P) (by rw [hb, hF, hE0, hR]; simp) (by rw [hn, hF, hE0, hR]; simp) (by rw [List.length_append, h13l, hTl])
    refine ⟨d, ?_, fun t ht => hd2 t (by rw [← hN]; exact ht)⟩
    rw [partsG, if_neg (by omega), if_pos hf, hd1]
end
end Go.Proofs.Ytkjlejkcedemlaa

namespace Go.Proofs.Ytkjlejkcedemlaa
set_option maxRecDepth 100000
set_option linter.unusedVariables false
open Go.ChangeShapes Go.WideShapes Go.ChangeAt Go.RowKit

/-- Bytes behind a row of one's own. -/
theorem app_list {W : World} {base : Nat} {v : Value} {out l : List Nat} {A : Option Addr} {cap : Nat} (h : W.ownsRow base 5 1 v out.length (cellsB out)) (hb : base ≤ W.heap.size) (ho : out.length ≤ 1000000) (hl : l.length ≤ 1000000) (hz : A = none → cap = 0) (hP : Byt W A l.length (gz l)) :
    ∃ v2 W2, (Builtin.append_ #[22, 22] 22 #[v, .slice A l.length cap]).run Try.prog W = .ok v2 W2 ∧ W2.ownsRow base 5 1 v2 (out ++ l).length (cellsB (out ++ l)) ∧ Below base W W2 := by
  obtain ⟨i0, hi, hz0, hz1, hz2⟩ := info_parts info8
  obtain ⟨v2, W2, r2, o2, g2, _⟩ := run_app (P := Try.prog) (w := W) base 22 22 5 i0 (.int .u8 0) 1 1 Try.underlying22 hi hz0 hz1 hz2 rfl (by omega) v out.length (cellsB out) h
    A l.length cap (cells8 l.length (gz l)) hz (by simp [cells8]) (byt_news hP) (cells8_one _ _) (by unfold maxLen; omega) (by omega) hb
  have e : cellsB out ++ cells8 l.length (gz l) = cellsB (out ++ l) := by rw [cells8_gz]; simp [cellsB]
  rw [e] at o2
  exact ⟨v2, W2, r2, own_len (by simp) o2, bel_grown (Below.refl base W) g2 (fun r hr => (h.lt r hr).1) hb⟩
/-- The file as it is made. -/
def OutR (w0 : World) (v : Value) (out : List Nat) (w : World) : Prop := w.ownsRow w0.heap.size 5 1 v out.length (cellsB out) ∧ Below w0.heap.size w0 w
theorem OutR.old {w0 : World} {v : Value} {out : List Nat} {w : World} (h : OutR w0 v out w) (l : List Nat) {A : Option Addr} {cap : Nat} (ho : out.length ≤ 1000000) (hl : l.length ≤ 1000000) (hz : A = none → cap = 0) (hP : Byt w A l.length (gz l)) :
    ∃ v2 W2, (Builtin.append_ #[22, 22] 22 #[v, .slice A l.length cap]).run Try.prog w = .ok v2 W2 ∧ OutR w0 v2 (out ++ l) W2 := by
  obtain ⟨v2, W2, r, o, b⟩ := app_list h.1 h.2.size ho hl hz hP
  exact ⟨v2, W2, r, o, h.2.trans b⟩
theorem byt_cells {w : World} (l : List Nat) (cs : Array Value) (hcs : cs.toList = cellsB l) : Byt (w.alloc (.cells cs 5)) (some ⟨w.heap.size, 0, none⟩) l.length (gz l) := fun hn => by
  refine ⟨w.heap.size, 0, rfl, by simp, fun j hj => ?_⟩
  rw [Nat.zero_add]
  refine hp_cell (hp_new0 w _) ?_
  rw [← Array.getElem?_toList, hcs]
  unfold cellsB gz
  rw [List.getElem?_map, List.getElem?_eq_getElem hj]
  rfl
theorem OutR.new {w0 : World} {v : Value} {out : List Nat} {w : World} (h : OutR w0 v out w) (l : List Nat) (cs : Array Value) (hcs : cs.toList = cellsB l) (ho : out.length ≤ 1000000) (hl : l.length ≤ 1000) :
    ∃ v2 W2, (Builtin.append_ #[22, 22] 22 #[v, .slice (some ⟨w.heap.size, 0, none⟩) l.length l.length]).run Try.prog (w.alloc (.cells cs 5)) = .ok v2 W2 ∧ OutR w0 v2 (out ++ l) W2 := by
  have h2 : OutR w0 v out (w.alloc (.cells cs 5)) := ⟨h.1.alloc _, h.2.alloc h.2.size _⟩
  exact h2.old l ho (by omega) (by simp) (byt_cells l cs hcs)
theorem OutR.first {w0 w : World} (l : List Nat) (cs : Array Value) (hcs : cs.toList = cellsB l) (hl : l.length ≤ 1000) (hB : Below w0.heap.size w0 w) : OutR w0 (.slice (some ⟨w.heap.size, 0, none⟩) l.length l.length) l (w.alloc (.cells cs 5)) :=
  ⟨⟨by rw [cellsB_len, Nat.mul_one], .inr ⟨w.heap.size, l.length, cs, rfl, hB.size, hp_new0 w _, Nat.le_refl _, by unfold maxLen; omega, by rw [← Array.length_toList, hcs, cellsB_len]; omega, by rw [hcs, ← cellsB_len l, List.take_of_length_le]; simp [cellsB_len]⟩⟩, hB.alloc hB.size _⟩
def bbN (n : Nat) : Nat := (bitsV (n : Nat)).toNat
theorem bbN_facts (n : Nat) (h : n ≤ 256) : bitsV (n : Nat) = (bbN n : Int) ∧ 1 ≤ bbN n ∧ bbN n ≤ 8 ∧ n ≤ 2 ^ bbN n := by
  unfold bbN bitsV
  split
  · exact ⟨rfl, by decide, by decide, by show n ≤ 2; omega⟩
  · split
    · exact ⟨rfl, by decide, by decide, by show n ≤ 4; omega⟩
    · split
      · exact ⟨rfl, by decide, by decide, by show n ≤ 8; omega⟩
      · split
        · exact ⟨rfl, by decide, by decide, by show n ≤ 16; omega⟩
        · split
          · exact ⟨rfl, by decide, by decide, by show n ≤ 32; omega⟩
          · split
            · exact ⟨rfl, by decide, by decide, by show n ≤ 64; omega⟩
            · split
              · exact ⟨rfl, by decide, by decide, by show n ≤ 128; omega⟩
              · exact ⟨rfl, by decide, by decide, by show n ≤ 256; omega⟩
theorem clearIx_bd (L : List P4) (h : L.length ≤ 256) : -1 ≤ clearIx L ∧ clearIx L < 256 := by
  unfold clearIx
  split
  · have := List.idxOf_lt_length_of_mem ‹_›
    omega
  · omega
/-- A picture that goes into a GIF. -/
theorem gifok_of {W H : Nat} {c : Nat → Nat} (hc : ∀ i, c i < 65536) (hfit : fitsB (W : Nat) (H : Nat) (4 * (W * H)) c 2 = true) :
    sizeE (W : Nat) (H : Nat) = 0 ∧ GifOk W H c (U c (W * H)) (clearIx (U c (W * H))) (bbN (U c (W * H)).length) (pl c (W * H)) := by
  obtain ⟨hm, hok, h257, h256⟩ := fit_ok hc hfit
  have hs : sizeE (W : Nat) (H : Nat) = 0 := by
    unfold mayB at hm
    exact (of_decide_eq_true hm).1
  obtain ⟨s1, s2, s3, s4, s5⟩ := size_ok hs
  obtain ⟨b0, b1, b2, b3⟩ := bbN_facts _ h256
  have s5' : W * H ≤ 16384 := by
    have : ((W * H : Nat) : Int) = (W : Int) * (H : Int) := by simp
    omega
  refine ⟨hs, ⟨by omega, by omega, by omega, by omega, s5', b1, b2, b3, pl_len _ _, fun i hi => ?_, fun j hj => ?_, clearIx_bd _ h256, fun j hj hne => ?_⟩⟩
  · have e : gz (pl c (W * H)) i = (U c i).idxOf (p4 c i) := by
      unfold gz
      rw [pl_get hi]
      rfl
    rw [e]
    exact ⟨idx_lt hi, by rw [U_get hi]; rfl⟩
  · have hq : (U c (W * H))[j]? = some (U c (W * H))[j] := List.getElem?_eq_getElem hj
    rw [hq]
    exact clear_at (U_nodup c _) hq
  · have hq : (U c (W * H))[j]? = some (U c (W * H))[j] := List.getElem?_eq_getElem hj
    rw [hq] at hne ⊢
    simp only [Option.getD_some] at hne ⊢
    obtain ⟨i, hi, he⟩ := U_mem (List.getElem_mem hj)
    rw [he] at hne ⊢
    have h1 := h257 (4 * i) (by omega)
    have h2 := h257 (4 * i + 1) (by omega)
    have h3 := h257 (4 * i + 2) (by omega)
    have ho := hok i hi
    unfold okPix okB at ho
    refine ⟨h1, h2, h3, ?_⟩
    simp only [Bool.or_eq_true, beq_iff_eq, Bool.and_eq_true] at ho
    rcases ho with ho | ⟨z0, z1, z2, z3⟩
    · exact ho
    · exact absurd (by unfold p4; rw [z0, z1, z2, z3]) hne
end Go.Proofs.Ytkjlejkcedemlaa

namespace Go.Proofs.Ytkjlejkcedemlaa
set_option maxRecDepth 100000
set_option linter.unusedVariables false
open Go.ChangeShapes Go.WideShapes Go.ChangeAt Go.RowKit

theorem zeros_16 (n : Nat) : zeros n = cells16 n (fun _ => 0) := by
  have hl : (zeros n).length = n := by simp [zeros, madeCells]
  refine List.ext_getElem? (fun j => ?_)
  by_cases hj : j < n
  · rw [cells16_get n _ j hj]
    exact zeros_get n j hj
  · rw [List.getElem?_eq_none (by omega), List.getElem?_eq_none (by simp [cells16]; omega)]
theorem finC_lt (b : Nat → Nat) (n cl sz most : Nat) (k : Nat) : ∀ s : Cz, GoodC n cl sz s → ∀ v ∈ (finC b n cl sz most k s).1, v < 256 := by
  induction k with
  | zero => intro s _; simp [finC]
  | succ k ih =>
    intro s hs
    rw [finC]
    split
    · simp
    · rename_i h0
      split
      · exact ih _ (hs.reset (by omega))
      · rename_i h1
        split
        · exact hs.out
        · rename_i h2
          split
          · simp
          · rename_i h3
            split
            · simp
            · exact ih _ (hs.step (by omega) _ (takeL_lt12 _ _ hs.wd2) h1 h2 (by simpa using h3))
theorem lzwV_lt (b : Nat → Nat) (n : Nat) (size most : Int) : ∀ v ∈ (lzwV b n size most).1, v < 256 := by
  unfold lzwV
  split
  · simp
  · exact finC_lt _ _ _ _ _ _ _ (good0 n size.toNat (by omega) (by omega))
theorem drop_gz (l : List Nat) (i : Nat) (h : i < l.length) : l.drop i = gz l i :: l.drop (i + 1) := by
  rw [List.drop_eq_getElem_cons h]
  unfold gz
  rw [List.getElem?_eq_getElem h]
  rfl
theorem rowsG_len (h : Nat) (h1 : 1 ≤ h) : (rowsG h).length = h := by
  unfold rowsG stepG
  simp only [List.length_append, List.length_map, List.length_range]
  omega
theorem stepG_lt (h f s : Nat) (hs : 0 < s) (hb : f ≤ 4) : ∀ v ∈ stepG h f s, v < h := by
  intro v hv
  unfold stepG at hv
  rw [List.mem_map] at hv
  obtain ⟨i, hi, rfl⟩ := hv
  rw [List.mem_range] at hi
  have h1 : s * (i + 1) ≤ h - f + s - 1 := by
    have := (Nat.le_div_iff_mul_le hs).1 (show i + 1 ≤ _ from hi)
    rwa [Nat.mul_comm] at this
  rw [Nat.mul_add, Nat.mul_one] at h1
  omega
theorem rowsG_lt (h : Nat) : ∀ v ∈ rowsG h, v < h := by
  intro v hv
  unfold rowsG at hv
  simp only [List.mem_append] at hv
  rcases hv with ((hv | hv) | hv) | hv
  · exact stepG_lt h 0 8 (by omega) (by omega) v hv
  · exact stepG_lt h 4 8 (by omega) (by omega) v hv
  · exact stepG_lt h 2 4 (by omega) (by omega) v hv
  · exact stepG_lt h 1 2 (by omega) (by omega) v hv
theorem gz_mem {l : List Nat} {i : Nat} (h : i < l.length) : gz l i ∈ l := by
  unfold gz
  rw [List.getElem?_eq_getElem h, Option.getD_some]
  exact List.getElem_mem h
theorem cellsI_get (l : List Nat) (i : Nat) (h : i < l.length) : (cellsI l)[i]? = some (.int .i64 (gz l i : Nat)) := by
  unfold cellsI gz
  rw [List.getElem?_map, List.getElem?_eq_getElem h]
  rfl
end Go.Proofs.Ytkjlejkcedemlaa
