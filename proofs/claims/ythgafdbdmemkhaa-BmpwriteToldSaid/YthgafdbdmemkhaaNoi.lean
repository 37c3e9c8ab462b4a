/- engraverlaw15.Noise, of bytes. -/
import Derived.Test.YthgafdbdmemkhaaBRt
namespace Go.Proofs.Ythgafdbdmemkhaa
set_option linter.unusedVariables false
open Go.ChangeShapes Go.WideShapes Go.ChangeAt Go.RowKit

def up1 (c : Nat → Nat) (k v j : Nat) : Nat := if j = k then v else c j
theorem own_put {B : Nat} {w : World} {g n : Nat} {c : Nat → Nat} (h : Own B w (some ⟨g, 0, none⟩) n c) (i v : Nat) : Own B (w.setCell ⟨g, i, none⟩ (.int .u16 (v : Nat))) (some ⟨g, 0, none⟩) n (up1 c i v) := fun hn => by
  obtain ⟨g', cur, he, hB, hg, hs, hc⟩ := h hn
  cases he
  refine ⟨g, _, rfl, hB, heap_set hg, by simpa using hs, fun j hj => ?_⟩
  rw [Array.getElem?_setIfInBounds]
  by_cases hE : i = j
  · subst hE
    rw [if_pos rfl, if_pos (by omega)]
    simp [up1]
  · rw [if_neg hE, hc j hj]
    simp [up1, Ne.symm hE]
theorem own_cell {B : Nat} {w : World} {g n : Nat} {c : Nat → Nat} (h : Own B w (some ⟨g, 0, none⟩) n c) {i : Nat} (hi : i < n) : w.cell? ⟨g, i, none⟩ = some (.int .u16 (c i : Nat)) ∧ w.frozen? ⟨g, i, none⟩ = false ∧ B ≤ g ∧ g < w.heap.size := by
  obtain ⟨g', cur, he, hB, hg, hs, hc⟩ := h (by omega)
  cases he
  exact ⟨hp_cell hg (hc i hi), hp_froz hg i, hB, lt_heap hg⟩
/-- Samples that are bytes. -/
def Byl (c : Nat → Nat) : Prop := ∀ i, c i < 65536 ∧ c i % 257 = 0
theorem Byl.up {c : Nat → Nat} (h : Byl c) {k v : Nat} (hv : v < 65536 ∧ v % 257 = 0) : Byl (up1 c k v) := fun i => by
  unfold up1
  split
  · exact hv
  · exact h i
theorem up_up (c : Nat → Nat) (k u v : Nat) : up1 (up1 c k u) k v = up1 c k v := by
  funext j
  unfold up1
  split <;> rfl
theorem u16_nat (n : Nat) (h : n < 65536) : IntKind.u16.wrap (n : Int) = (n : Int) := by rw [IntKind.wrap_u16]; omega
theorem noise_ari (x : Nat) : ∃ y1 y u v : Nat, u < 65536 ∧ v < 256 ∧ y < 4294967296 ∧ IntKind.u32.wrap ((x : Int) * 1664525) = (y1 : Int) ∧ IntKind.u32.wrap ((y1 : Int) + 1013904223) = (y : Int) ∧ (y : Int) / 65536 = (u : Int) ∧ IntKind.u16.wrap (u : Int) = (u : Int) ∧ (y : Int) / 16777216 = (v : Int) ∧ IntKind.u16.wrap (v : Int) = (v : Int) ∧ IntKind.u16.wrap ((v : Int) * 257) = (v : Int) * 257 := by
  obtain ⟨y1, hy1⟩ : ∃ y1 : Nat, ((x : Int) * 1664525) % 4294967296 = (y1 : Int) := ⟨((x * 1664525) % 4294967296 : Nat), by simp⟩
  obtain ⟨y, hy⟩ : ∃ y : Nat, ((y1 : Int) + 1013904223) % 4294967296 = (y : Int) := ⟨((y1 + 1013904223) % 4294967296 : Nat), by simp⟩
  have hyb : y < 4294967296 := by omega
  have hu : y / 65536 < 65536 := by omega
  have hv : y / 16777216 < 256 := by omega
  refine ⟨y1, y, y / 65536, y / 16777216, hu, hv, hyb, by rw [IntKind.wrap_u32', hy1], by rw [IntKind.wrap_u32', hy], by simp, ?_, by simp, ?_, ?_⟩
  · exact u16_nat _ hu
  · exact u16_nat _ (by omega)
  · have h := u16_nat (y / 16777216 * 257) (by omega)
    rwa [show ((y / 16777216 * 257 : Nat) : Int) = ((y / 16777216 : Nat) : Int) * 257 by simp] at h
theorem by257 {v : Nat} (h : v < 256) : v * 257 < 65536 ∧ v * 257 % 257 = 0 := by omega
set_option maxRecDepth 100000 in
set_option maxHeartbeats 4000000 in
theorem noise_law (a b N : Nat) (s : Nat) (hab : a * b = N) (ha : 1 ≤ a ∧ a ≤ 256) (hb : 1 ≤ b ∧ b ≤ 256) (hN : N ≤ 16384) (hz : sizeE a b = 0) (w : World) :
    Calls Try.prog 6 #[.int .i64 a, .int .i64 b, .int .u32 s, .int .i64 257] w fun e w' => ∃ g cap' c, e = .returned (.agg #[.int .i64 a, .int .i64 b, .slice (some ⟨g, 0, none⟩) (4 * N) cap']) ∧ 4 * N ≤ cap' ∧ cap' ≤ maxLen ∧ Own w.heap.size w' (some ⟨g, 0, none⟩) (4 * N) c ∧ Byl c ∧ Below w.heap.size w w' := by
  have hB0 := Lib.hid ((Below.refl _ w).alloc (Nat.le_refl _) (.cells #[.int .i64 0, .int .i64 0, .slice none 0 0] 26))
  have HRB := Lib.hid (hp_new0 w (.cells #[.int .i64 0, .int .i64 0, .slice none 0 0] 26))
  have hs1 : (w.alloc (.cells #[.int .i64 0, .int .i64 0, .slice none 0 0] 26)).heap.size = w.heap.size + 1 := World.size_alloc _ _
  go_enter Try.func6, Try.ntmps6
  go_wp2_with fail
  generalize w.alloc (.cells #[.int .i64 0, .int .i64 0, .slice none 0 0] 26) = w1 at *
  obtain ⟨B, hBe⟩ : ∃ B, B = w.heap.size := ⟨_, rfl⟩
  refine (new_ref a b (by unfold In64; omega) (by unfold In64; omega) _).mono ?_
  rintro e w3 ⟨hB, ⟨_, v, rfl, hown⟩ | ⟨h, _⟩⟩
  rotate_left
  · exact absurd hz h
  have h4N : (4 * (a : Int) * (b : Int)).toNat = 4 * N := by
    rw [← hab, Int.mul_assoc]
    omega
  have hN1 : 1 ≤ N := by
    have : 1 * 1 ≤ a * b := Nat.mul_le_mul ha.1 hb.1
    omega
  obtain ⟨n4, hn4⟩ : ∃ n4, n4 = 4 * N := ⟨_, rfl⟩
  have hn40 : 0 < n4 := by omega
  have hn4b : n4 ≤ 65536 := by omega
  rw [h4N, ← hn4, zeros_16, hs1] at hown
  obtain ⟨A', cap', rfl, hn', hc', _, hO⟩ := NewRow.of_row hown
  obtain ⟨g, cur, rfl, hgB, _⟩ := hO hn40
  rw [hs1, ← hBe] at hB
  rw [← hBe] at hgB hs1
  have HB4 := Lib.hid hB
  have HO4 := Lib.hid (hO.le (show B + 1 ≤ w.heap.size + 1 + 1 by omega))
  have hs3 : B + 1 ≤ w3.heap.size := by have := hB.size; omega
  have hgr : g < w3.heap.size := (hO.lt g hn40 rfl).2
  have HN4 := Lib.hid hn4
  have HBe := Lib.hid hBe
  clear hown hB hO h4N hn4 hBe
  go_wp2_with fail
  have hal : Below w3.heap.size w3 (w3.alloc (.cells #[.int .i64 a, .int .i64 b, .slice (some ⟨g, 0, none⟩) n4 cap'] 26)) := (Below.refl _ w3).alloc (Nat.le_refl _) _
  have HR4 := Lib.hid (hp_new0 w3 (.cells #[.int .i64 a, .int .i64 b, .slice (some ⟨g, 0, none⟩) n4 cap'] 26))
  have HB5 := Lib.hid (HB4.out.trans (hal.mono hs3))
  have HO5 := Lib.hid (HO4.out.below hal)
  clear hal HB4 HO4
  generalize w3.alloc (.cells #[.int .i64 a, .int .i64 b, .slice (some ⟨g, 0, none⟩) n4 cap'] 26) = w5 at *
  obtain ⟨rb, hrb⟩ : ∃ rb, rb = w3.heap.size := ⟨_, rfl⟩
  rw [← hrb] at HR4 hs3 hgr ⊢
  clear hrb
  go_loopw [11, 12] (fun xs is wr => ∃ (x i : Nat) (ck : Nat → Nat), i ≤ n4 ∧ xs = .int .u32 (x : Nat) ∧ is = .int .i64 (i : Nat) ∧ Below (B + 1) w1 wr ∧ wr.heap[rb]? = some (.cells #[.int .i64 a, .int .i64 b, .slice (some ⟨g, 0, none⟩) n4 cap'] 26 (0, 0)) ∧ Own (B + 1) wr (some ⟨g, 0, none⟩) n4 ck ∧ Byl ck) (fun _ x _ => n4 - (intOf x).toNat)
  case atStart => exact ⟨s, 0, _, by omega, rfl, rfl, HB5.out, HR4.out, HO5.out, fun i => ⟨by omega, rfl⟩⟩
  case round =>
    obtain ⟨x, i, ck, hi, rfl, rfl, hB, hR, hO, hby⟩ := hrel
    have k2 := hp_cell (j := 2) hR rfl
    by_cases hlt : i < n4
    · obtain ⟨ci, fi, hgB2, hgl⟩ := own_cell hO hlt
      have hrg : ¬rb = g := by omega
      obtain ⟨y1, y, u, v, hub, hvb, hyb, hF⟩ := noise_ari x
      have HF := Lib.hid hF
      clear hF
      have hO1 := own_put hO i u
      have hO2 := own_put hO1 i (v * 257)
      rw [up_up] at hO2
      obtain ⟨ci2, fi2, _, _⟩ := own_cell hO1 hlt
      have hR1 := hp_oth (i := i) (v := .int .u16 (u : Nat)) hR hrg
      have hR2 := hp_oth (i := i) (v := .int .u16 (v * 257 : Nat)) hR1 hrg
      have l2 := hp_cell (j := 2) hR1 rfl
      have hB2 := (hB.setCell (p := ⟨g, i, none⟩) hgB2 (.int .u16 (u : Nat))).setCell (p := ⟨g, i, none⟩) hgB2 (.int .u16 (v * 257 : Nat))
      have hBy2 := hby.up (k := i) (v := v * 257) (by257 hvb)
      have hvI : ((v * 257 : Nat) : Int) = (v : Int) * 257 := by simp
      rw [hvI] at hO2 hR2 hB2
      obtain ⟨hy1, hy, hu2, hu3, hv2, hv3, hv4⟩ := HF.out
      clear hub hvb HF
      have HO2 := Lib.hid hO2
      have HR2 := Lib.hid hR2
      have HB2 := Lib.hid hB2
      have HY2 := Lib.hid hBy2
      clear hO hO1 hO2 hR hR1 hR2 hB hB2 hby hBy2 hvI
      go_wp2_with fail
      go_roundw
      case rel =>
        clear hy1 hy hu2 hu3 hv2 hv3 hv4
        exact ⟨y, i + 1, _, hlt, rfl, by go_num, HB2.out, HR2.out, HO2.out, HY2.out⟩
      case measure =>
        clear hy1 hy hu2 hu3 hv2 hv3 hv4
        simp [intOf]
        omega
    · have hR8 := hp_below HRB.out hB (by have := HBe.out; omega)
      have r0 := hp_cell (j := 0) hR8 rfl
      have r1 := hp_cell (j := 1) hR8 rfl
      have r2 := hp_cell (j := 2) hR8 rfl
      have rf := hp_froz hR8
      have k0 := hp_cell (j := 0) hR rfl
      have k1 := hp_cell (j := 1) hR rfl
      have HO9 := Lib.hid (hO.le (show w.heap.size + 1 ≤ B + 1 by have := HBe.out; omega))
      have HBF := Lib.hid (hB0.out.trans (hB.mono (show w.heap.size ≤ B + 1 by have := HBe.out; omega)))
      have HY9 := Lib.hid hby
      clear hR8 hR hB hO hby
      go_wp2_with fail
      refine bodyPost_ret (v := .agg #[.int .i64 a, .int .i64 b, .slice (some ⟨g, 0, none⟩) n4 cap']) (by rw [results_cell1 rfl]; go_simp) rfl ?_
      refine ⟨g, cap', ck, by rw [HN4.out], by rw [← HN4.out]; exact hn', hc', ?_, HY9.out, ?_⟩
      · rw [← HN4.out]
        exact (((HO9.out.set (g := w.heap.size) (by omega) 0 _).set (g := w.heap.size) (by omega) 1 _).set (g := w.heap.size) (by omega) 2 _).le (by omega)
      · exact ((HBF.out.setCell (p := ⟨w.heap.size, 0, none⟩) (by simp) _).setCell (p := ⟨w.heap.size, 1, none⟩) (by simp) _).setCell (p := ⟨w.heap.size, 2, none⟩) (by simp) _
end Go.Proofs.Ythgafdbdmemkhaa
