/- GifwriteMany: plain laws. GifwriteMany: the walk. Arguments that come in: three bytes. -/
import Derived.Test.YtlgoohhfpmomhaaM17

namespace Go.Proofs.Ytlgoohhfpmomhaa
set_option maxRecDepth 100000
set_option linter.unusedVariables false
open Go.ChangeShapes Go.WideShapes Go.ChangeAt Go.RowKit

theorem len_sub {α : Type} [DecidableEq α] : ∀ (l m : List α), l.Nodup → (∀ x ∈ l, x ∈ m) → l.length ≤ m.length
  | [], m, _, _ => by simp
  | a :: l, m, hn, hs => by
    rw [List.nodup_cons] at hn
    have ha := hs a (by simp)
    have h := len_sub l (m.erase a) hn.2 (fun x hx => by
      have hne : x ≠ a := fun e => hn.1 (by rw [← e]; exact hx)
      exact (List.mem_erase_of_ne hne).2 (hs x (by simp [hx])))
    rw [List.length_erase_of_mem ha] at h
    have := List.length_pos_of_mem ha
    simp
    omega
/-- The colour of a number; e: does nought have one? -/
def colM (e : Bool) (c : Nat) : P4 := if 0 < c ∨ e = true then (c * 257, (255 - c) * 257, 257, 65535) else (0, 0, 0, 0)
theorem colM_w4 (e : Bool) (c : Nat) (h : c ≤ 255) : w4 (colM e c) := by
  unfold colM
  split
  · unfold w4; exact ⟨by show c * 257 < 65536; omega, by show (255 - c) * 257 < 65536; omega, Nat.lt_of_le_of_lt (Nat.le_refl 257) (by decide), Nat.lt_of_le_of_lt (Nat.le_refl 65535) (by decide)⟩
  · unfold w4; decide
/-- The picture behind i pixels. -/
def ManyR (e : Bool) (k N i : Nat) (c : Nat → Nat) : Prop := (∀ j, c j < 65536) ∧ (∀ q, i ≤ q → p4 c q = (0, 0, 0, 0)) ∧ ∀ q, q < i → ∃ d, d < k ∧ p4 c q = colM e d
theorem many0 (e : Bool) (k N : Nat) : ManyR e k N 0 (fun _ => 0) := ⟨fun _ => Nat.zero_lt_of_lt (show 0 < 65536 by decide), fun _ _ => rfl, fun q hq => absurd hq (by omega)⟩
theorem p4_setC (c : Nat → Nat) (k : Nat) (p : P4) (q : Nat) : p4 (setC c k p) q = if q = k then p else p4 c q := by
  unfold p4
  by_cases h : q = k
  · subst h
    obtain ⟨e0, e1, e2, e3⟩ := setC_at c q p
    rw [if_pos rfl, e0, e1, e2, e3]
  · rw [if_neg h, setC_off c k p _ (by omega), setC_off c k p _ (by omega), setC_off c k p _ (by omega), setC_off c k p _ (by omega)]
theorem ManyR.yes {e : Bool} {k N i : Nat} {c : Nat → Nat} (h : ManyR e k N i c) {d : Nat} (hd : d < k) (hd2 : d ≤ 255) (he : 0 < d ∨ e = true) : ManyR e k N (i + 1) (setC c i (d * 257, (255 - d) * 257, 257, 65535)) := by
  have hcm : (d * 257, (255 - d) * 257, 257, 65535) = colM e d := by unfold colM; rw [if_pos he]
  rw [hcm]
  refine ⟨setC_lt h.1 i (colM_w4 e d hd2), fun q hq => ?_, fun q hq => ?_⟩
  · rw [p4_setC, if_neg (by omega)]
    exact h.2.1 q (by omega)
  · rw [p4_setC]
    by_cases hE : q = i
    · rw [if_pos hE]; exact ⟨d, hd, rfl⟩
    · rw [if_neg hE]; exact h.2.2 q (by omega)
theorem ManyR.no {e : Bool} {k N i : Nat} {c : Nat → Nat} (h : ManyR e k N i c) (hk : 0 < k) (he : e = false) : ManyR e k N (i + 1) c :=
  ⟨h.1, fun q hq => h.2.1 q (by omega), fun q hq => by
    by_cases hE : q = i
    · exact ⟨0, hk, by rw [h.2.1 q (by omega)]; unfold colM; rw [if_neg (by rw [he]; simp)]⟩
    · exact h.2.2 q (by omega)⟩
theorem p4_at {c : Nat → Nat} {q : Nat} {a b d e : Nat} (h : p4 c q = (a, b, d, e)) : c (4 * q) = a ∧ c (4 * q + 1) = b ∧ c (4 * q + 2) = d ∧ c (4 * q + 3) = e := by
  unfold p4 at h
  simp only [Prod.mk.injEq] at h
  exact h
theorem ManyR.fit {e : Bool} {k N : Nat} {c : Nat → Nat} (h : ManyR e k N N c) (hk : k ≤ 256) {a b : Int} (hm : mayB a b (4 * N) = true) : fitsB a b (4 * N) c 2 = true := by
  obtain ⟨hc, _, hp⟩ := h
  have h4 : ∀ q, q < N → (p4 c q = (0, 0, 0, 0)) ∨ ∃ d, d ≤ 255 ∧ p4 c q = (d * 257, (255 - d) * 257, 257, 65535) := fun q hq => by
    obtain ⟨d, hd, he⟩ := hp q hq
    rw [he]
    unfold colM
    split
    · exact .inr ⟨d, by omega, rfl⟩
    · exact .inl rfl
  refine fit_mk hc hm (fun i hi => ?_) (fun j hj => ?_) ?_
  · rw [okPix_iff]
    rcases h4 i hi with h | ⟨d, _, h⟩
    · obtain ⟨e0, e1, e2, e3⟩ := p4_at h
      exact .inr ⟨e0, e1, e2, e3⟩
    · obtain ⟨e0, e1, e2, e3⟩ := p4_at h
      exact .inl e3
  · have hq : j / 4 < N := by omega
    have hj4 : j = 4 * (j / 4) ∨ j = 4 * (j / 4) + 1 ∨ j = 4 * (j / 4) + 2 ∨ j = 4 * (j / 4) + 3 := by omega
    generalize j / 4 = q at *
    rcases h4 q hq with h | ⟨d, _, h⟩
    · obtain ⟨e0, e1, e2, e3⟩ := p4_at h
      rcases hj4 with rfl | rfl | rfl | rfl
      · rw [e0]
      · rw [e1]
      · rw [e2]
      · rw [e3]
    · obtain ⟨e0, e1, e2, e3⟩ := p4_at h
      rcases hj4 with rfl | rfl | rfl | rfl
      · rw [e0]; omega
      · rw [e1]; omega
      · rw [e2]
      · rw [e3]
  · have := len_sub (U c N) ((List.range k).map (colM e)) (U_nodup c N) (fun x hx => by
      obtain ⟨i, hi, rfl⟩ := U_mem hx
      obtain ⟨d, hd, he⟩ := hp i hi
      rw [he]
      exact List.mem_map.2 ⟨d, by simpa using hd, rfl⟩)
    simp at this
    omega
theorem many_ari (x k : Nat) (hk : 1 ≤ k) (hk2 : k ≤ 256) : ∃ y1 y u c : Nat, y < 4294967296 ∧ u < 65536 ∧ c < k ∧ IntKind.u32.wrap ((x : Int) * 1664525) = (y1 : Int) ∧ IntKind.u32.wrap ((y1 : Int) + 1013904223) = (y : Int) ∧ (y : Int) / 65536 = (u : Int) ∧ (u : Int) % (k : Int) = (c : Int) ∧ Int.tmod (u : Int) (k : Int) = (c : Int) := by
  obtain ⟨y1, hy1⟩ : ∃ y1 : Nat, ((x : Int) * 1664525) % 4294967296 = (y1 : Int) := ⟨((x * 1664525) % 4294967296 : Nat), by simp⟩
  obtain ⟨y, hy⟩ : ∃ y : Nat, ((y1 : Int) + 1013904223) % 4294967296 = (y : Int) := ⟨((y1 + 1013904223) % 4294967296 : Nat), by simp⟩
  have hyb : y < 4294967296 := by omega
  have e1 : ((y / 65536 : Nat) : Int) % (k : Int) = ((y / 65536 % k : Nat) : Int) := by simp
  refine ⟨y1, y, y / 65536, y / 65536 % k, hyb, by omega, Nat.mod_lt _ (by omega), by rw [IntKind.wrap_u32]; exact hy1, by rw [IntKind.wrap_u32]; exact hy, by simp, e1, ?_⟩
  rw [Int.tmod_eq_emod_of_nonneg (by omega), e1]
end Go.Proofs.Ytlgoohhfpmomhaa

namespace Go.Proofs.Ytlgoohhfpmomhaa
set_option maxRecDepth 100000
set_option linter.unusedVariables false
open Go.ChangeShapes Go.WideShapes Go.ChangeAt Go.RowKit

theorem copy_pix (wr : World) (g cap i : Nat) (cur2 : Array Value) (hgx : wr.heap[g]? = some (.cells cur2 31 (0, 0))) (hs : 4 * i + 4 ≤ cur2.size) (a b : Nat) (aI bI : Int) (hA : aI = (a : Nat)) (hB : bI = (b : Nat)) :
    (Builtin.copy_ #[25, 25] 3 #[.slice (some ⟨g, 4 * i, none⟩) 4 (cap - 4 * i), .slice (some ⟨wr.heap.size, 0, none⟩) 4 4]).run Try.prog (wr.alloc (.cells #[.int .u16 aI, .int .u16 bI, .int .u16 257, .int .u16 65535] 31))
      = .ok (goInt 4) ((wr.alloc (.cells #[.int .u16 aI, .int .u16 bI, .int .u16 257, .int .u16 65535] 31)).setRow g (setCur cur2 i (pix4 a b 257 65535))) ∧
    (wr.alloc (.cells #[.int .u16 aI, .int .u16 bI, .int .u16 257, .int .u16 65535] 31)).heap[g]? = some (.cells cur2 31 (0, 0)) := by
  subst hA hB
  have hal := hp_alloc (.cells #[.int .u16 (a : Nat), .int .u16 (b : Nat), .int .u16 257, .int .u16 65535] 31) hgx
  have hnw := hp_new0 wr (.cells #[.int .u16 (a : Nat), .int .u16 (b : Nat), .int .u16 257, .int .u16 65535] 31)
  have hrun := run_copy_row (P := Try.prog) (wr.alloc (.cells #[.int .u16 (a : Nat), .int .u16 (b : Nat), .int .u16 257, .int .u16 65535] 31)) 25 25 3 31 g (4 * i) 4 (cap - 4 * i) ⟨wr.heap.size, 0, none⟩ 4 4 cur2 _ (pix4 a b 257 65535) Try.underlying25 size38 hal (show 4 = Nat.min 4 4 from rfl)
    (by
      intro j u hj
      match j, hj with
      | 0, hj => exact (hp_cell (j := 0) hnw rfl).trans hj
      | 1, hj => exact (hp_cell (j := 1) hnw rfl).trans hj
      | 2, hj => exact (hp_cell (j := 2) hnw rfl).trans hj
      | 3, hj => exact (hp_cell (j := 3) hnw rfl).trans hj) (by simp [pix4]; omega) (by simp [pix4, Value.oneCell'])
  exact ⟨hrun, hal⟩
theorem and1u (x : Nat) (hx : x < 4294967296) : (bits .and .u32 (x : Int) 1 == 0) = decide (x % 2 = 0) := by
  have h := u32_and_nat x 1 hx (by omega)
  rw [show ((1 : Nat) : Int) = 1 from rfl] at h
  rw [h, Nat.and_one_is_mod]
  have : x % 2 = 0 ∨ x % 2 = 1 := by omega
  rcases this with h | h <;> rw [h] <;> rfl
set_option maxRecDepth 100000 in
set_option maxHeartbeats 4000000 in
theorem gmany_walk (n0 n1 n2 s : Nat) (h0 : n0 < 256) (h1 : n1 < 256) (h2 : n2 < 256) (hs : s < 4294967296) (w : World) :
    Calls Try.prog 3 #[.agg #[.int .u8 (n0 : Nat), .int .u8 (n1 : Nat), .int .u8 (n2 : Nat)], .int .u32 (s : Nat)] w fun e w' => e = .returned (.bool true) ∧ Below w.heap.size w w' := by
  have HB := Lib.hid ((Below.refl _ w).alloc (Nat.le_refl _) (.cells #[.int .u8 (n0 : Nat), .int .u8 (n1 : Nat), .int .u8 (n2 : Nat)] 22))
  have HX := Lib.hid (hp_new0 w (.cells #[.int .u8 (n0 : Nat), .int .u8 (n1 : Nat), .int .u8 (n2 : Nat)] 22))
  go_enter Try.func3, Try.ntmps3
  go_wp2_with fail
  generalize w.alloc (.cells #[.int .u8 (n0 : Nat), .int .u8 (n1 : Nat), .int .u8 (n2 : Nat)] 22) = w1 at *
  refine (awake17 _).mono ?_
  rintro e w2 ⟨rfl, hB2⟩
  have HB2 := Lib.hid (HB.out.trans (hB2.mono HB.out.size))
  have hX2 := hp_below HX.out hB2 (lt_heap HX.out)
  clear hB2
  have c0 := hp_cell (j := 0) hX2 rfl
  have c1 := hp_cell (j := 1) hX2 rfl
  have c2 := hp_cell (j := 2) hX2 rfl
  obtain ⟨W, hW⟩ : ∃ W, W = 1 + n0 % 96 := ⟨_, rfl⟩
  obtain ⟨H, hH⟩ : ∃ H, H = 1 + n1 % 96 := ⟨_, rfl⟩
  have g0 : (n0 : Int) % 96 = (W : Int) - 1 := by omega
  have g0' : Int.tmod (n0 : Int) 96 = (W : Int) - 1 := by rw [Int.tmod_eq_emod_of_nonneg (by omega), g0]
  have g1 : (n1 : Int) % 96 = (H : Int) - 1 := by omega
  have g1' : Int.tmod (n1 : Int) 96 = (H : Int) - 1 := by rw [Int.tmod_eq_emod_of_nonneg (by omega), g1]
  have g2 : IntKind.i64.wrap ((n2 : Int)) = (n2 : Int) := IntWalk.i64_in _ (by omega)
  have hWb : 1 ≤ W ∧ W ≤ 96 := by omega
  have hHb : 1 ≤ H ∧ H ≤ 96 := by omega
  have g3 : IntKind.i64.wrap (1 + ((W : Int) - 1)) = (W : Int) := by rw [IntWalk.i64_in _ (by omega)]; omega
  have g4 : IntKind.i64.wrap (1 + ((H : Int) - 1)) = (H : Int) := by rw [IntWalk.i64_in _ (by omega)]; omega
  clear hW hH
  go_wp2_with fail
  go_quiet (fail)
  have HB3 := Lib.hid (below_drewN HB2.out nq)
  clear hX2 c0 c1 c2 g0 g0' g1 g1' g2 g3 g4 HB2
  generalize w2.drewN nq = w3 at *
  obtain ⟨k, hk⟩ : ∃ k, k = 1 + n2 := ⟨_, rfl⟩
  have hkI : 1 + (n2 : Int) = (k : Int) := by omega
  rw [hkI]
  have hkb : 1 ≤ k ∧ k ≤ 256 := by omega
  clear hk hkI
  obtain ⟨N, hN⟩ : ∃ N, N = W * H := ⟨_, rfl⟩
  have hNb : 1 ≤ N ∧ N ≤ 9216 := by
    have h1 : 1 * 1 ≤ W * H := Nat.mul_le_mul hWb.1 hHb.1
    have h2 : W * H ≤ 96 * 96 := Nat.mul_le_mul hWb.2 hHb.2
    omega
  have hNI : (W : Int) * (H : Int) = (N : Int) := by rw [hN]; simp
  have hz : sizeE (W : Nat) (H : Nat) = 0 := by
    unfold sizeE
    rw [if_neg (by omega), if_neg]
    have : (16384 : Int) / (H : Int) ≥ (W : Int) := by
      rw [ge_iff_le, Int.le_ediv_iff_mul_le (by omega), hNI]
      omega
    omega
  have HN := Lib.hid hN
  have HZ := Lib.hid hz
  clear hN hz
  go_wp2_with fail
  refine (new_ref (W : Nat) (H : Nat) (by unfold In64; omega) (by unfold In64; omega) _).mono ?_
  rintro e w7 ⟨hB, ⟨_, v, rfl, hown⟩ | ⟨h, _⟩⟩
  rotate_left
  · exact absurd HZ.out h
  have h4N : (4 * (W : Int) * (H : Int)).toNat = 4 * N := by
    rw [Int.mul_assoc, hNI]
    omega
  obtain ⟨n4, hn4⟩ : ∃ n4, n4 = 4 * N := ⟨_, rfl⟩
  rw [h4N, ← hn4, zeros_16] at hown
  obtain ⟨A', cap', rfl, hn', hc', _, hO⟩ := NewRow.of_row hown
  have hn40 : 0 < n4 := by omega
  obtain ⟨g, cur, rfl, hgB, _⟩ := hO hn40
  have hgl := (hO.lt g hn40 rfl).2
  have hal : Below w7.heap.size w7 (w7.alloc (.cells #[.int .i64 (W : Nat), .int .i64 (H : Nat), .slice (some ⟨g, 0, none⟩) n4 cap'] 27)) := (Below.refl _ w7).alloc (Nat.le_refl _) _
  have hw3 := HB3.out.size
  have hw7 := hB.size
  have HO4 := Lib.hid ((hO.below hal).le (B' := w.heap.size) (by omega))
  have HR4 := Lib.hid (hp_new0 w7 (.cells #[.int .i64 (W : Nat), .int .i64 (H : Nat), .slice (some ⟨g, 0, none⟩) n4 cap'] 27))
  have HB7 := Lib.hid (HB3.out.trans ((hB.trans (hal.mono hB.size)).mono HB3.out.size))
  have HN4 := Lib.hid hn4
  clear hown hB hO h4N hal hn4
  go_wp2_with fail
  generalize w7.alloc (.cells #[.int .i64 (W : Nat), .int .i64 (H : Nat), .slice (some ⟨g, 0, none⟩) n4 cap'] 27) = w8 at *
  obtain ⟨rb, hrb⟩ : ∃ rb, rb = w7.heap.size := ⟨_, rfl⟩
  rw [← hrb] at HR4 hgl hw7 ⊢
  clear hrb
  obtain ⟨ev, hev⟩ : ∃ ev : Bool, ev = decide (s % 2 = 0) := ⟨_, rfl⟩
  have hs1 := and1u s hs
  rw [← hev] at hs1
  clear hev
  go_loopw [10, 11] (fun x i wr => ∃ (y j : Nat) (c : Nat → Nat), y < 4294967296 ∧ j ≤ N ∧ x = .int .u32 (y : Nat) ∧ i = .int .i64 (j : Nat) ∧ Below w.heap.size w wr ∧ wr.heap[rb]? = some (.cells #[.int .i64 (W : Nat), .int .i64 (H : Nat), .slice (some ⟨g, 0, none⟩) n4 cap'] 27 (0, 0)) ∧ Own w.heap.size wr (some ⟨g, 0, none⟩) n4 c ∧ ManyR ev k N j c) (fun _ i _ => N - (intOf i).toNat)
  case atStart => exact ⟨s, 0, _, hs, by omega, rfl, rfl, HB7.out, HR4.out, HO4.out, many0 ev k N⟩
  case round =>
    clear HB7 HR4 HO4
    obtain ⟨y, j, c, hy, hj, rfl, rfl, hB, hR, hO, hM⟩ := hrel
    have HBr := Lib.hid hB
    have HRr := Lib.hid hR
    have HMr := Lib.hid hM
    have k0 := hp_cell (j := 0) hR rfl
    have k1 := hp_cell (j := 1) hR rfl
    have k2 := hp_cell (j := 2) hR rfl
    clear hB hM
    by_cases hlt : j < N
    · obtain ⟨y1, y2, u, d, a1, a2, a3, a4, a5, a6, a7, a8⟩ := many_ari y k hkb.1 hkb.2
      obtain ⟨g', cur2, he, hgB2, hgx, hs2, hcl⟩ := hO hn40
      cases he
      have HCL := Lib.hid hcl
      have HOr := Lib.hid hO
      have a9 : ¬ k = 0 := by omega
      have a10 : ((k : Int) == 0) = false := beq_eq_false_iff_ne.2 (by omega)
      have hdb : d ≤ 255 := by omega
      have hj4 : 4 * j + 4 ≤ n4 := by have := HN4.out; omega
      have hgl2 := lt_heap hgx
      have hrl2 := lt_heap hR
      have hck : ¬cap' = 4 * j := by omega
      have hlI : (4 : Int) * (j : Int) + 4 ≤ (n4 : Int) := by omega
      have hlC : (4 : Int) * (j : Int) + 4 ≤ (cap' : Int) := by omega
      have hkn : (0 : Int) ≤ (j : Int) := by omega
      obtain ⟨hrun, HNg⟩ := copy_pix wr g cap' j cur2 hgx (by omega) (d * 257) ((255 - d) * 257) ((d : Int) * 257) ((255 - (d : Int)) * 257) (by simp) (by omega)
      have b1 : IntKind.u16.wrap (d : Int) = (d : Int) := by rw [IntKind.wrap_u16]; omega
      have b2 : IntKind.u16.wrap ((d : Int) * 257) = (d : Int) * 257 := by rw [IntKind.wrap_u16]; omega
      have b3 : IntKind.u16.wrap (255 - (d : Int)) = 255 - (d : Int) := by rw [IntKind.wrap_u16]; omega
      have b4 : IntKind.u16.wrap ((255 - (d : Int)) * 257) = (255 - (d : Int)) * 257 := by rw [IntKind.wrap_u16]; omega
      have HNg' := Lib.hid HNg
      have HOn : Hid (Own w.heap.size ((wr.alloc (.cells #[.int .u16 ((d : Int) * 257), .int .u16 ((255 - (d : Int)) * 257), .int .u16 257, .int .u16 65535] 31)).setRow g (setCur cur2 j (pix4 (d * 257) ((255 - d) * 257) 257 65535))) (some ⟨g, 0, none⟩) n4 (setC c j (d * 257, (255 - d) * 257, 257, 65535))) :=
        Lib.hid (fun _ => ⟨g, _, rfl, hgB2, setRow_heap _ _ _ _ _ _ HNg, by rw [setCur_size _ _ _ (by simp [pix4]; omega)]; exact hs2, fun i hi => setCur_own HCL.out hs2 j hj4 (d * 257, (255 - d) * 257, 257, 65535) i hi⟩)
      have HRn := Lib.hid ((setRow_other _ g rb (setCur cur2 j (pix4 (d * 257) ((255 - d) * 257) 257 65535)) (by omega)).trans (hp_alloc (.cells #[.int .u16 ((d : Int) * 257), .int .u16 ((255 - (d : Int)) * 257), .int .u16 257, .int .u16 65535] 31) hR))
      have HBn := Lib.hid (below_setRow (HBr.out.alloc HBr.out.size (.cells #[.int .u16 ((d : Int) * 257), .int .u16 ((255 - (d : Int)) * 257), .int .u16 257, .int .u16 65535] 31)) (g := g) (by omega) (setCur cur2 j (pix4 (d * 257) ((255 - d) * 257) 257 65535)))
      clear hO hcl HNg hgx hR
      by_cases hd0 : 0 < d
      · have t1 : decide (0 < d) = true := by simp; omega
        have HMn := Lib.hid (HMr.out.yes a3 hdb (.inl hd0))
        clear hd0
        go_wp2_with fail
        go_roundw
        case rel => exact ⟨y2, j + 1, _, a1, hlt, rfl, by go_num, HBn.out, HRn.out, HOn.out, HMn.out⟩
        case measure => simp [intOf]; omega
      · have t1 : decide (0 < d) = false := by simp; omega
        cases hev : ev with
        | true =>
          rw [hev] at hs1
          have HMn := HMr.out.yes a3 hdb (.inr hev)
          rw [hev] at HMn
          replace HMn := Lib.hid HMn
          clear hev hd0
          go_wp2_with fail
          go_roundw
          case rel => exact ⟨y2, j + 1, _, a1, hlt, rfl, by go_num, HBn.out, HRn.out, HOn.out, HMn.out⟩
          case measure => simp [intOf]; omega
        | false =>
          rw [hev] at hs1
          have HMn := HMr.out.no hkb.1 hev
          rw [hev] at HMn
          replace HMn := Lib.hid HMn
          have HRo := HRr
          clear hev hd0 hrun
          go_wp2_with fail
          go_roundw
          case rel => exact ⟨y2, j + 1, _, a1, hlt, rfl, by go_num, HBr.out, HRr.out, HOr.out, HMn.out⟩
          case measure => simp [intOf]; omega
    · have HJ := Lib.hid (show j = N by omega)
      have HO := Lib.hid hO
      have hmN := HMr.out
      rw [HJ.out] at hmN
      have hmay : mayB (W : Nat) (H : Nat) n4 = true := by
        rw [mayB, decide_eq_true_eq]
        exact ⟨HZ.out, by rw [HN4.out, Int.mul_assoc, hNI]; simp⟩
      have hfit : fitsB (W : Nat) (H : Nat) n4 c 2 = true := by
        rw [HN4.out] at hmay ⊢
        exact hmN.fit hkb.2 hmay
      have HF := Lib.hid hfit
      have HMy := Lib.hid hmay
      have HC := Lib.hid hmN.1
      clear hO hmN hmay hfit hR
      go_wp2_with fail
      refine (enc_yes W H n4 (by rw [HN4.out, HN.out]) hn40 _ cap' c HC.out HF.out hn' hc' _ HO.out.pix).mono ?_
      rintro e w9 ⟨A9, cap9, m9, rfl, hm9, hl9, hN9, hB9⟩
      have HB9 := Lib.hid (HBr.out.trans (hB9.mono HBr.out.size))
      have HR9 := Lib.hid (hp_below HRr.out hB9 (lt_heap HRr.out))
      have HO9 := Lib.hid (HO.out.below hB9)
      have HM9 := Lib.hid hm9
      have HN9 := Lib.hid hN9
      have HL9 := Lib.hid hl9
      clear hB9 hm9 hN9 hl9 k0 k1 k2
      go_wp2_with fail
      refine (gif_back_n W H n4 m9 (by rw [HN4.out, HN.out]) _ HC.out HF.out HM9.out A9 cap9 _ w9 HN9.out).mono ?_
      rintro e w10 ⟨A10, cap10, rfl, hn10, hc10, hO10, hB10⟩
      have hal10 : Below w10.heap.size w10 (w10.alloc (.cells #[.int .i64 (W : Nat), .int .i64 (H : Nat), .slice A10 n4 cap10] 27)) := (Below.refl _ w10).alloc (Nat.le_refl _) _
      have hb11 := hB10.trans (hal10.mono hB10.size)
      have HB11 := Lib.hid (HB9.out.trans (hb11.mono HB9.out.size))
      have hR11 := hp_below HR9.out hb11 (lt_heap HR9.out)
      have HO11 := Lib.hid (HO9.out.below hb11)
      have HP11 := Lib.hid (hO10.below hal10).pix
      have hQ11 := hp_new0 w10 (.cells #[.int .i64 (W : Nat), .int .i64 (H : Nat), .slice A10 n4 cap10] 27)
      have k0 := hp_cell (j := 0) hR11 rfl
      have k1 := hp_cell (j := 1) hR11 rfl
      have k2 := hp_cell (j := 2) hR11 rfl
      have q0 := hp_cell (j := 0) hQ11 rfl
      have q1 := hp_cell (j := 1) hQ11 rfl
      have q2 := hp_cell (j := 2) hQ11 rfl
      clear hB10 hal10 hb11 hR11 hQ11 hO10
      go_wp2_with fail
      generalize w10.alloc (.cells #[.int .i64 (W : Nat), .int .i64 (H : Nat), .slice A10 n4 cap10] 27) = w11 at *
      refine (same14_ok (W : Nat) (H : Nat) A10 n4 cap10 c (W : Nat) (H : Nat) (some ⟨g, 0, none⟩) n4 cap' c (by unfold In64; omega) (by unfold In64; omega) (by unfold In64; omega) (by unfold In64; omega) hn10 hc10 hn' hc' _ HP11.out HO11.out.pix).mono ?_
      rintro e w12 ⟨rfl, hB12⟩
      rw [same_self c HMy.out]
      have HFn := Lib.hid (HB11.out.trans (hB12.mono HB11.out.size))
      obtain ⟨T, hT⟩ : ∃ T, T = 9 * W * H := ⟨_, rfl⟩
      have hTI : (9 : Int) * (W : Int) * (H : Int) = (T : Int) := by rw [hT]; simp
      have hmT : m9 ≤ T + 2048 := by rw [hT]; exact HL9.out
      have hTb : T ≤ 9 * 9216 := by rw [hT, Nat.mul_assoc, ← HN.out]; omega
      have t3 : decide ((m9 : Int) ≤ (T : Int) + 2048) = true := by simp; omega
      clear hB12 k0 k1 k2 q0 q1 q2 hT
      go_wp2_with fail
      go_ret
      exact ⟨rfl, HFn.out⟩
end Go.Proofs.Ytlgoohhfpmomhaa

namespace Go.Proofs.Ytlgoohhfpmomhaa
set_option maxRecDepth 100000
set_option linter.unusedVariables false
open Go.ChangeShapes Go.WideShapes Go.ChangeAt Go.RowKit

section
variable {H : Type} {enc : TypeId × Value → H} {W : World}
theorem wf8 {a : Int} (h : Lit.wf (.int .u8 a) = true) : 0 ≤ a ∧ a ≤ 255 := by simpa [Lit.wf, IntKind.min, IntKind.max, IntKind.signed, IntKind.bits] using h
theorem open_t3 {r : Reach} {b0 : Nat} {v : Value} {d : DataW H} {p : List MemPlace} (hv : Value.okWide Try.prog W r b0 22 v) (h : DataW.Trod enc Try.prog W 0 (fun _ => true) true 22 v d p) :
    ∃ x y z : Nat, v = .agg #[.int .u8 (x : Nat), .int .u8 (y : Nat), .int .u8 (z : Nat)] ∧ x < 256 ∧ y < 256 ∧ z < 256 := by
  obtain ⟨cs, rfl, hsz⟩ := okWide_arr Try.underlying22 hv
  rw [show Try.prog.cellsOf 22 = 3 from by kernel_rfl] at hsz
  obtain ⟨fuel, hf⟩ := h
  obtain ⟨xs, m, _, _, _, hx, hg⟩ := DataW.trod_array Try.underlying22 hf
  have c3 : Try.prog.cellsOf 5 = 1 := by kernel_rfl
  match cs, hsz with
  | ⟨[c0, c1, c2]⟩, _ =>
    have g0 := hg 0 (by omega)
    have g1 := hg 1 (by omega)
    have g2 := hg 2 (by omega)
    simp only [c3, Value.cells, List.drop_zero, Nat.one_mul, Nat.zero_mul, List.drop_succ_cons, List.take_succ_cons, List.take_zero] at g0 g1 g2
    rw [List.getElem?_eq_getElem (by omega)] at g0 g1 g2
    obtain ⟨a, ha, _, hwa⟩ := DataW.trod_int Try.underlying5 g0
    obtain ⟨b, hb, _, hwb⟩ := DataW.trod_int Try.underlying5 g1
    obtain ⟨c, hc, _, hwc⟩ := DataW.trod_int Try.underlying5 g2
    simp at ha hb hc
    subst ha hb hc
    have qa := wf8 hwa
    have qb := wf8 hwb
    have qc := wf8 hwc
    obtain ⟨x, rfl⟩ := Int.eq_ofNat_of_zero_le qa.1
    obtain ⟨y, rfl⟩ := Int.eq_ofNat_of_zero_le qb.1
    obtain ⟨z, rfl⟩ := Int.eq_ofNat_of_zero_le qc.1
    exact ⟨x, y, z, rfl, by omega, by omega, by omega⟩
end
end Go.Proofs.Ytlgoohhfpmomhaa
