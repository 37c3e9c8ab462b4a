/- The plain part of PaletteFull: 256 colours, 257. -/
import Derived.Test.YtnjlklcggcfcgaaPlBk
namespace Go.Proofs.Ytnjlklcggcfcgaa
set_option linter.unusedVariables false
open Go.ChangeShapes Go.WideShapes Go.ChangeAt Go.RowKit

def kF (i : Nat) : Nat := if i < 255 then i else 255
def cF (j : Nat) : Nat := if j % 4 = 0 then kF (j / 4) * 257 else if j % 4 = 1 then 257 else if j % 4 = 2 then 0 else 65535
def cG (j : Nat) : Nat := if j = 1041 then 514 else cF j
theorem kF_le (i : Nat) : kF i ≤ 255 := by unfold kF; split <;> omega
theorem cF_lt (j : Nat) : cF j < 65536 := by
  have := kF_le (j / 4)
  unfold cF
  (repeat' split) <;> omega
theorem cG_lt (j : Nat) : cG j < 65536 := by unfold cG; split; omega; exact cF_lt j
theorem sizeF : sizeE 17 16 = 0 := by decide
theorem mayF : mayB 17 16 (4 * 272) = true := by decide
set_option maxRecDepth 100000 in
theorem UF : (U cF 272).length = 256 := by kernel_rfl
set_option maxRecDepth 100000 in
theorem UG : (U cG 272).length = 257 := by kernel_rfl
theorem fitF : fitsB 17 16 (4 * 272) cF 2 = true := by
  refine fit_mk cF_lt mayF (fun i _ => okPix_iff.2 (.inl ?_)) (fun j _ => ?_) (by rw [UF]; omega)
  · unfold cF
    rw [if_neg (by omega), if_neg (by omega), if_neg (by omega)]
  · unfold cF
    (repeat' split) <;> omega
theorem fitG : fitsB 17 16 (4 * 272) cG 2 = false := by
  cases h : fitsB 17 16 (4 * 272) cG 2 with
  | false => rfl
  | true =>
    obtain ⟨_, _, _, h4⟩ := fit_ok cG_lt h
    rw [UG] at h4
    omega
theorem clF : clearIx (U cF 272) = -1 := by
  unfold clearIx
  rw [if_neg]
  intro h
  obtain ⟨i, hi, e⟩ := U_mem h
  have h3 : cF (4 * i + 3) = 65535 := by
    unfold cF
    rw [if_neg (by omega), if_neg (by omega), if_neg (by omega)]
  simp only [p4, Prod.mk.injEq] at e
  omega
theorem cF_set {cur : Array Value} {i : Nat} (h : ∀ j, j < 4 * i → cur[j]? = some (.int .u16 (cF j : Nat))) (hs : 4 * i + 4 ≤ cur.size) (j : Nat) (hj : j < 4 * (i + 1)) :
    (setCur cur i (pix4 (kF i * 257) 257 0 65535))[j]? = some (.int .u16 (cF j : Nat)) := by
  by_cases h1 : j < 4 * i
  · rw [setCur_out _ _ _ (by simp [pix4]; omega) _ (.inl h1)]
    exact h j h1
  · obtain ⟨d, rfl⟩ := Nat.le.dest (show 4 * i ≤ j by omega)
    rw [setCur_in _ _ _ (by simp [pix4]; omega) _ (by simp [pix4]; omega)]
    have hd : (4 * i + d) / 4 = i := by omega
    have hm : (4 * i + d) % 4 = d := by omega
    unfold cF
    rw [hm, hd]
    obtain rfl | rfl | rfl | rfl : d = 0 ∨ d = 1 ∨ d = 2 ∨ d = 3 := by omega
    all_goals rfl
theorem cG_set {cur : Array Value} (h : ∀ j, j < 4 * 272 → cur[j]? = some (.int .u16 (cF j : Nat))) (hs : 4 * 272 ≤ cur.size) (j : Nat) (hj : j < 4 * 272) :
    (cur.setIfInBounds 1041 (.int .u16 514))[j]? = some (.int .u16 (cG j : Nat)) := by
  unfold cG
  rw [Array.getElem?_setIfInBounds]
  by_cases e : j = 1041
  · subst e
    rw [if_pos rfl, if_pos (by omega), if_pos rfl]
    rfl
  · rw [if_neg (fun h => e h.symm), if_neg e]
    exact h j hj
end Go.Proofs.Ytnjlklcggcfcgaa
