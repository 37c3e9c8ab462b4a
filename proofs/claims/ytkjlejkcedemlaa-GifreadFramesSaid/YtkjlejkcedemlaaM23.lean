/- GifreadFrames: the walk. -/
import Derived.Test.YtkjlejkcedemlaaM22
import Derived.BigQuiet
namespace Go.Proofs.Ytkjlejkcedemlaa
set_option maxRecDepth 100000
set_option linter.unusedVariables false
open Go.ChangeShapes Go.WideShapes Go.ChangeAt Go.RowKit

theorem and2 (x : Nat) (hx : x < 256) : (bits .and .u8 (x : Int) 2 == 2) = decide (x / 2 % 2 = 1) := by
  have h := u8_and_nat x 2 hx (by omega)
  rw [show ((2 : Nat) : Int) = 2 from rfl] at h
  rw [h]
  have k : ∀ y : Fin 256, ((((y.val &&& 2 : Nat) : Int)) == 2) = decide (y.val / 2 % 2 = 1) := by decide
  exact k ⟨x, hx⟩
theorem and3 (x : Nat) (hx : x < 256) : bits .and .u8 (x : Int) 3 = ((x % 4 : Nat) : Int) := by
  have h := u8_and_nat x 3 hx (by omega)
  rw [show ((3 : Nat) : Int) = 3 from rfl] at h
  rw [h]
  have k : ∀ y : Fin 256, ((y.val &&& 3 : Nat) : Int) = ((y.val % 4 : Nat) : Int) := by decide
  exact k ⟨x, hx⟩
theorem and3w (x : Nat) (hx : x < 256) : IntKind.u8.wrap (bits .and .u8 (x : Int) 3) = ((x % 4 : Nat) : Int) := by
  rw [and3 x hx, IntKind.wrap_u8']
  omega
/-- The places that are drawn. -/
def plF (d : Nat → Nat) (m k : Nat) : List Nat := (List.range k).map fun i => d (i % m) % 4
theorem plF_len (d : Nat → Nat) (m k : Nat) : (plF d m k).length = k := by simp [plF]
theorem plF_succ (d : Nat → Nat) (m k : Nat) : plF d m (k + 1) = plF d m k ++ [d (k % m) % 4] := by simp [plF, List.range_succ]
theorem plF_lt (d : Nat → Nat) (m k : Nat) : ∀ v ∈ plF d m k, v < 4 := fun v hv => by
  obtain ⟨i, _, rfl⟩ := List.mem_map.1 hv
  omega
/-- An append leaves the blocks that are not its row's. -/
theorem OutR.oldK {w0 : World} {v : Value} {out : List Nat} {w : World} (h : OutR w0 v out w) (l : List Nat) {A : Option Addr} {cap : Nat} (ho : out.length ≤ 1000000) (hl : l.length ≤ 1000000) (hz : A = none → cap = 0) (hP : Byt w A l.length (gz l)) :
    ∃ v2 W2, (Builtin.append_ #[22, 22] 22 #[v, .slice A l.length cap]).run Try.prog w = .ok v2 W2 ∧ OutR w0 v2 (out ++ l) W2 ∧ w.heap.size ≤ W2.heap.size ∧ ∀ k, k < w.heap.size → v.ownBlock ≠ some k → v2.ownBlock ≠ some k ∧ W2.heap[k]? = w.heap[k]? := by
  obtain ⟨i0, hi, hz0, hz1, hz2⟩ := info_parts info8
  obtain ⟨v2, W2, r2, o2, g2, hor⟩ := run_app (P := Try.prog) (w := w) w0.heap.size 22 22 5 i0 (.int .u8 0) 1 1 Try.underlying22 hi hz0 hz1 hz2 rfl (by omega) v out.length (cellsB out) h.1
    A l.length cap (cells8 l.length (gz l)) hz (by simp [cells8]) (byt_news hP) (cells8_one _ _) (by unfold maxLen; omega) (by omega) h.2.size
  have e : cellsB out ++ cells8 l.length (gz l) = cellsB (out ++ l) := by rw [cells8_gz]; simp [cellsB]
  rw [e] at o2
  refine ⟨v2, W2, r2, ⟨own_len (by simp) o2, h.2.trans (bel_grown (Below.refl _ _) g2 (fun r hr => (h.1.lt r hr).1) h.2.size)⟩, g2.size, fun k hk hne => ⟨fun e2 => ?_, g2.block k hk (fun e3 => hne e3.symm)⟩⟩
  rcases hor with h1 | h1
  · exact hne (h1.symm.trans e2)
  · rw [e2] at h1
    injection h1 with h1
    omega
theorem OutR.newK {w0 : World} {v : Value} {out : List Nat} {w : World} (h : OutR w0 v out w) (l : List Nat) (cs : Array Value) (hcs : cs.toList = cellsB l) (ho : out.length ≤ 1000000) (hl : l.length ≤ 1000) :
    ∃ v2 W2, (Builtin.append_ #[22, 22] 22 #[v, .slice (some ⟨w.heap.size, 0, none⟩) l.length l.length]).run Try.prog (w.alloc (.cells cs 5)) = .ok v2 W2 ∧ OutR w0 v2 (out ++ l) W2 ∧ w.heap.size ≤ W2.heap.size ∧ ∀ k, k < w.heap.size → v.ownBlock ≠ some k → v2.ownBlock ≠ some k ∧ W2.heap[k]? = w.heap[k]? := by
  have h2 : OutR w0 v out (w.alloc (.cells cs 5)) := ⟨h.1.alloc _, h.2.alloc h.2.size _⟩
  obtain ⟨v2, W2, r, o, hs, hk⟩ := h2.oldK l ho (by omega) (by simp) (byt_cells l cs hcs)
  have hs1 : w.heap.size + 1 ≤ W2.heap.size := by simpa using hs
  refine ⟨v2, W2, r, o, by omega, fun k h1 h3 => ?_⟩
  obtain ⟨a1, a2⟩ := hk k (by simp; omega) h3
  exact ⟨a1, a2.trans (heap_alloc_old w _ h1)⟩
theorem Byt.blk {w w' : World} {A : Option Addr} {n : Nat} {b : Nat → Nat} (h : Byt w A n b) (hk : ∀ a, A = some a → w'.heap[a.block]? = w.heap[a.block]?) (hs : w.heap.size ≤ w'.heap.size) : Byt w' A n b := fun hn => by
  obtain ⟨bk, off, rfl, hlt, hc⟩ := h hn
  refine ⟨bk, off, rfl, Nat.lt_of_lt_of_le hlt hs, fun j hj => ?_⟩
  have := hc j hj
  have hb : w'.heap[bk]? = w.heap[bk]? := hk _ rfl
  unfold World.cell? at this ⊢
  rw [hb]
  exact this
/-- The colour as it is made. -/
def colA (add x j : Nat) : Array Value := #[.int .u16 ((if 0 < j then (add + 3 * x + 1) * 257 else 0 : Nat) : Int), .int .u16 ((if 1 < j then (add + 3 * x + 2) * 257 else 0 : Nat) : Int), .int .u16 ((if 2 < j then (add + 3 * x + 3) * 257 else 0 : Nat) : Int), .int .u16 65535]
theorem colA_get (add x j t : Nat) (ht : t < 3) : ∃ u, (colA add x j)[t]? = some u := by
  obtain rfl | rfl | rfl : t = 0 ∨ t = 1 ∨ t = 2 := by omega
  · exact ⟨_, rfl⟩
  · exact ⟨_, rfl⟩
  · exact ⟨_, rfl⟩
theorem colA_three (add x : Nat) : colA add x 3 = #[.int .u16 (((add + 3 * x + 1) * 257 : Nat) : Int), .int .u16 (((add + 3 * x + 2) * 257 : Nat) : Int), .int .u16 (((add + 3 * x + 3) * 257 : Nat) : Int), .int .u16 65535] := by simp [colA]
theorem colA_set (add x j : Nat) (hj : j < 3) : (colA add x j).setIfInBounds j (.int .u16 (((add + 3 * x + j + 1) * 257 : Nat) : Int)) = colA add x (j + 1) := by
  obtain rfl | rfl | rfl : j = 0 ∨ j = 1 ∨ j = 2 := by omega
  · rfl
  · rfl
  · rfl
/-- gifread.Decode of such a file. -/
theorem dec_frame {W H le tp fw fh cl : Nat} (lac loc : Bool) {D P : List Nat} (h1 : 1 ≤ W ∧ W ≤ 20) (h2 : 1 ≤ H ∧ H ≤ 20) (hw : le + fw ≤ W) (hh : tp + fh ≤ H) (hf : 1 ≤ fw ∧ 1 ≤ fh) (hc : cl < 256) (hDl : D.length ≤ 100000) (hD8 : ∀ v ∈ D, v < 256)
    (hP : P.length = fw * fh) (hP4 : ∀ v ∈ P, v < 4) (hD : lzwV (gz D) D.length ((2 : Nat) : Int) ((fw * fh : Nat) : Int) = (P, 0)) (A : Option Addr) (n cap : Nat) (hn : n = (frF W H le tp fw fh cl lac loc D).length) (q1 : n ≤ cap) (q2 : cap ≤ maxLen) (q3 : A = none → cap = 0) (w : World) (hB : Byt w A n (gz (frF W H le tp fw fh cl lac loc D))) :
    Calls Try.prog 9 #[.slice A n cap] w fun e w' => ∃ A' cap' dd, e = .returned (.tuple #[.agg #[.int .i64 (W : Nat), .int .i64 (H : Nat), .slice A' (4 * (W * H)) cap'], .int .i64 0]) ∧ 4 * (W * H) ≤ cap' ∧ cap' ≤ maxLen ∧ Own w.heap.size w' A' (4 * (W * H)) dd ∧ drawG W fw le tp lac (rowsG fh) (colF (if loc = true then 20 else 0)) (cl : Int) P 0 noP = some dd ∧ Below w.heap.size w w' := by
  obtain ⟨l6, l8, hg⟩ := fr_back (w := W) (h := H) (le := le) (tp := tp) (fw := fw) (fh := fh) (cl := cl) lac loc h1 h2 hw hh hf hc hDl hP hD _ n rfl hn
  obtain ⟨dd, hdd⟩ := draw_some W fw le tp lac (rowsG fh) (colF (if loc = true then 20 else 0)) (cl : Int) P 0 noP (fun v hv => by rw [colF_len]; exact hP4 v hv)
  rw [hdd] at hg
  dsimp only at hg
  refine (decode_g A n cap _ (gz_lt (frF_lt (by omega) (by omega) (by omega) (by omega) (by omega) (by omega) hc hD8)) q1 q2 q3 w hB).mono ?_
  rw [l6, l8, hg]
  rintro e w' ⟨hB', ⟨_, A', cap', k1, k2, rfl, hO⟩ | ⟨h0, _⟩⟩
  · exact ⟨A', cap', dd, rfl, k1, k2, hO, hdd, hB'⟩
  · exact absurd rfl h0
set_option maxRecDepth 1000000 in
set_option maxHeartbeats 8000000 in
theorem gframes_walk (n0 n1 n2 n3 n4 n5 n6 n7 : Nat) (h0 : n0 < 256) (h1 : n1 < 256) (h2 : n2 < 256) (h3 : n3 < 256) (h4 : n4 < 256) (h5 : n5 < 256) (h6 : n6 < 256) (h7 : n7 < 256) (A : Option Addr) (m cap : Nat) (d : Nat → Nat) (hd : ∀ i, d i < 256) (hn : m ≤ cap) (hmax : cap ≤ maxLen) (hz : A = none → cap = 0) (w : World) (hP : Byt w A m d) :
    Calls Try.prog 6 #[.agg #[.int .u8 (n0 : Nat), .int .u8 (n1 : Nat), .int .u8 (n2 : Nat), .int .u8 (n3 : Nat), .int .u8 (n4 : Nat), .int .u8 (n5 : Nat), .int .u8 (n6 : Nat), .int .u8 (n7 : Nat)], .slice A m cap] w fun e w' => e = .returned (.bool true) ∧ Below w.heap.size w w' := by
  have HB := Lib.hid ((Below.refl _ w).alloc (Nat.le_refl _) (.cells #[.int .u8 (n0 : Nat), .int .u8 (n1 : Nat), .int .u8 (n2 : Nat), .int .u8 (n3 : Nat), .int .u8 (n4 : Nat), .int .u8 (n5 : Nat), .int .u8 (n6 : Nat), .int .u8 (n7 : Nat)] 41))
  have HX := Lib.hid (hp_new0 w (.cells #[.int .u8 (n0 : Nat), .int .u8 (n1 : Nat), .int .u8 (n2 : Nat), .int .u8 (n3 : Nat), .int .u8 (n4 : Nat), .int .u8 (n5 : Nat), .int .u8 (n6 : Nat), .int .u8 (n7 : Nat)] 41))
  have HP := Lib.hid (hP.below HB.out)
  have HD := Lib.hid hd
  clear hP hd
  go_enter Try.func6, Try.ntmps6
  go_wp2_with fail
  generalize w.alloc (.cells #[.int .u8 (n0 : Nat), .int .u8 (n1 : Nat), .int .u8 (n2 : Nat), .int .u8 (n3 : Nat), .int .u8 (n4 : Nat), .int .u8 (n5 : Nat), .int .u8 (n6 : Nat), .int .u8 (n7 : Nat)] 41) = w1 at *
  refine (awake16 _).mono ?_
  rintro e w2 ⟨rfl, hB2⟩
  have HB2 := Lib.hid (HB.out.trans (hB2.mono HB.out.size))
  have HX2 := Lib.hid (hp_below HX.out hB2 (lt_heap HX.out))
  have HP2 := Lib.hid (HP.out.below hB2)
  clear hB2 HX HP HB
  -- the screen's sides
  obtain ⟨W, hW⟩ : ∃ W, W = 1 + n0 % 20 := ⟨_, rfl⟩
  obtain ⟨H, hH⟩ : ∃ H, H = 1 + n1 % 20 := ⟨_, rfl⟩
  have hWb : 1 ≤ W ∧ W ≤ 20 := by omega
  have hHb : 1 ≤ H ∧ H ≤ 20 := by omega
  have c0 := hp_cell (j := 0) HX2.out rfl
  have c1 := hp_cell (j := 1) HX2.out rfl
  have g0 : (n0 : Int) % 20 = (W : Int) - 1 := by omega
  have g0' : Int.tmod (n0 : Int) 20 = (W : Int) - 1 := by rw [Int.tmod_eq_emod_of_nonneg (by omega), g0]
  have g1 : (n1 : Int) % 20 = (H : Int) - 1 := by omega
  have g1' : Int.tmod (n1 : Int) 20 = (H : Int) - 1 := by rw [Int.tmod_eq_emod_of_nonneg (by omega), g1]
  have g3 : IntKind.i64.wrap (1 + ((W : Int) - 1)) = (W : Int) := by rw [IntWalk.i64_in _ (by omega)]; omega
  have g4 : IntKind.i64.wrap (1 + ((H : Int) - 1)) = (H : Int) := by rw [IntWalk.i64_in _ (by omega)]; omega
  clear hW hH
  go_upto_region 3 with fail
  go_quiet (fail)
  have HB3 := Lib.hid (below_drewN HB2.out nq)
  have HX3 : Hid ((w2.drewN nq).heap[w.heap.size]? = some (.cells #[.int .u8 (n0 : Nat), .int .u8 (n1 : Nat), .int .u8 (n2 : Nat), .int .u8 (n3 : Nat), .int .u8 (n4 : Nat), .int .u8 (n5 : Nat), .int .u8 (n6 : Nat), .int .u8 (n7 : Nat)] 41 (0, 0))) := Lib.hid HX2.out
  have HP3 := Lib.hid (HP2.out.below (below_drewN (Below.refl _ w2) nq))
  clear c0 c1 g0 g0' g1 g1' g3 g4 HB2 HX2 HP2 h0 h1
  generalize w2.drewN nq = w3 at *
  -- the frame's place
  obtain ⟨le, hle⟩ : ∃ le, le = n2 % W := ⟨_, rfl⟩
  obtain ⟨tp, htp⟩ : ∃ tp, tp = n3 % H := ⟨_, rfl⟩
  have hlb : le < W := by rw [hle]; exact Nat.mod_lt _ (by omega)
  have htb : tp < H := by rw [htp]; exact Nat.mod_lt _ (by omega)
  have c0 := hp_cell (j := 2) HX3.out rfl
  have c1 := hp_cell (j := 3) HX3.out rfl
  have g0 : (n2 : Int) % (W : Int) = (le : Int) := by rw [hle]; simp
  have g0' : Int.tmod (n2 : Int) (W : Int) = (le : Int) := by rw [Int.tmod_eq_emod_of_nonneg (by omega), g0]
  have g1 : (n3 : Int) % (H : Int) = (tp : Int) := by rw [htp]; simp
  have g1' : Int.tmod (n3 : Int) (H : Int) = (tp : Int) := by rw [Int.tmod_eq_emod_of_nonneg (by omega), g1]
  have z0 : ((W : Int) == 0) = false := beq_eq_false_iff_ne.2 (by omega)
  have z1 : ((H : Int) == 0) = false := beq_eq_false_iff_ne.2 (by omega)
  clear hle htp
  go_upto_region 4 with fail
  go_quiet (fail)
  have HB4 := Lib.hid (below_drewN HB3.out nq)
  have HX4 : Hid ((w3.drewN nq).heap[w.heap.size]? = some (.cells #[.int .u8 (n0 : Nat), .int .u8 (n1 : Nat), .int .u8 (n2 : Nat), .int .u8 (n3 : Nat), .int .u8 (n4 : Nat), .int .u8 (n5 : Nat), .int .u8 (n6 : Nat), .int .u8 (n7 : Nat)] 41 (0, 0))) := Lib.hid HX3.out
  have HP4 := Lib.hid (HP3.out.below (below_drewN (Below.refl _ w3) nq))
  clear c0 c1 g0 g0' g1 g1' z0 z1 HB3 HX3 HP3 h2 h3
  generalize w3.drewN nq = w4 at *
  -- the frame's sides
  obtain ⟨fw, hfw⟩ : ∃ fw, fw = 1 + n4 % (W - le) := ⟨_, rfl⟩
  obtain ⟨fh, hfh⟩ : ∃ fh, fh = 1 + n5 % (H - tp) := ⟨_, rfl⟩
  have hx1 : n4 % (W - le) < W - le := Nat.mod_lt _ (by omega)
  have hx2 : n5 % (H - tp) < H - tp := Nat.mod_lt _ (by omega)
  have hfwb : 1 ≤ fw ∧ le + fw ≤ W := by omega
  have hfhb : 1 ≤ fh ∧ tp + fh ≤ H := by omega
  have c0 := hp_cell (j := 4) HX4.out rfl
  have c1 := hp_cell (j := 5) HX4.out rfl
  obtain ⟨Wl, hWl⟩ : ∃ Wl, Wl = W - le := ⟨_, rfl⟩
  obtain ⟨Ht, hHt⟩ : ∃ Ht, Ht = H - tp := ⟨_, rfl⟩
  rw [← hWl] at hfw
  rw [← hHt] at hfh
  have s0 : (W : Int) - (le : Int) = (Wl : Int) := by omega
  have s0' : IntKind.i64.wrap ((W : Int) - (le : Int)) = (Wl : Int) := by rw [s0]; exact IntWalk.i64_in _ (by omega)
  have s1 : (H : Int) - (tp : Int) = (Ht : Int) := by omega
  have s1' : IntKind.i64.wrap ((H : Int) - (tp : Int)) = (Ht : Int) := by rw [s1]; exact IntWalk.i64_in _ (by omega)
  have g0 : (n4 : Int) % (Wl : Int) = (fw : Int) - 1 := by
    have : ((n4 % Wl : Nat) : Int) = (n4 : Int) % (Wl : Int) := by simp
    omega
  have g0' : Int.tmod (n4 : Int) (Wl : Int) = (fw : Int) - 1 := by rw [Int.tmod_eq_emod_of_nonneg (by omega), g0]
  have g1 : (n5 : Int) % (Ht : Int) = (fh : Int) - 1 := by
    have : ((n5 % Ht : Nat) : Int) = (n5 : Int) % (Ht : Int) := by simp
    omega
  have g1' : Int.tmod (n5 : Int) (Ht : Int) = (fh : Int) - 1 := by rw [Int.tmod_eq_emod_of_nonneg (by omega), g1]
  have z0 : ((Wl : Int) == 0) = false := beq_eq_false_iff_ne.2 (by omega)
  have z1 : ((Ht : Int) == 0) = false := beq_eq_false_iff_ne.2 (by omega)
  have g3 : IntKind.i64.wrap (1 + ((fw : Int) - 1)) = (fw : Int) := by rw [IntWalk.i64_in _ (by omega)]; omega
  have g4 : IntKind.i64.wrap (1 + ((fh : Int) - 1)) = (fh : Int) := by rw [IntWalk.i64_in _ (by omega)]; omega
  clear hx1 hx2 hfw hfh hWl hHt
  go_upto_region 5 with fail
  go_quiet (fail)
  have HB5 := Lib.hid (below_drewN HB4.out nq)
  have HX5 : Hid ((w4.drewN nq).heap[w.heap.size]? = some (.cells #[.int .u8 (n0 : Nat), .int .u8 (n1 : Nat), .int .u8 (n2 : Nat), .int .u8 (n3 : Nat), .int .u8 (n4 : Nat), .int .u8 (n5 : Nat), .int .u8 (n6 : Nat), .int .u8 (n7 : Nat)] 41 (0, 0))) := Lib.hid HX4.out
  have HP5 := Lib.hid (HP4.out.below (below_drewN (Below.refl _ w4) nq))
  clear c0 c1 g0 g0' g1 g1' z0 z1 g3 g4 s0 s0' s1 s1' HB4 HX4 HP4 h4 h5
  generalize w4.drewN nq = w5 at *
  by_cases hbig : 1000 < m
  · have b1 : decide ((1000 : Int) < (m : Int)) = true := decide_eq_true (by omega)
    go_wp2_with fail
    go_ret
    exact ⟨rfl, HB5.out⟩
  have b1 : decide ((1000 : Int) < (m : Int)) = false := decide_eq_false (by omega)
  by_cases hm0 : m = 0
  · subst hm0
    go_wp2_with fail
    go_ret
    exact ⟨rfl, HB5.out⟩
  have b2 : ((m : Int) == 0) = false := beq_eq_false_iff_ne.2 (by omega)
  obtain ⟨lac, hlac⟩ : ∃ lac, lac = decide (n6 % 2 = 1) := ⟨_, rfl⟩
  obtain ⟨loc, hloc⟩ : ∃ loc, loc = decide (n6 / 2 % 2 = 1) := ⟨_, rfl⟩
  have e1 := and1 n6 h6
  have e2 := and2 n6 h6
  rw [← hlac] at e1
  rw [← hloc] at e2
  clear hlac hloc
  have c0 := hp_cell (j := 6) HX5.out rfl
  go_upto_region 8 with fail
  go_quiet (fail)
  have HB6 := Lib.hid (below_drewN HB5.out nq)
  have HX6 : Hid ((w5.drewN nq).heap[w.heap.size]? = some (.cells #[.int .u8 (n0 : Nat), .int .u8 (n1 : Nat), .int .u8 (n2 : Nat), .int .u8 (n3 : Nat), .int .u8 (n4 : Nat), .int .u8 (n5 : Nat), .int .u8 (n6 : Nat), .int .u8 (n7 : Nat)] 41 (0, 0))) := Lib.hid HX5.out
  have HP6 := Lib.hid (HP5.out.below (below_drewN (Below.refl _ w5) nq))
  clear c0 e1 e2 b1 b2 HB5 HX5 HP5 h6
  generalize w5.drewN nq = w6 at *
  obtain ⟨cl, hcl⟩ : ∃ cl, cl = n7 % 5 := ⟨_, rfl⟩
  have hclb : cl < 5 := by omega
  have c0 := hp_cell (j := 7) HX6.out rfl
  have g0 : (n7 : Int) % 5 = (cl : Int) := by omega
  have g0' : Int.tmod (n7 : Int) 5 = (cl : Int) := by rw [Int.tmod_eq_emod_of_nonneg (by omega), g0]
  clear hcl
  go_upto_region 10 with fail
  clear c0 g0 g0' HX6 h7
  -- the file's beginning
  obtain ⟨i0, hi0, hz0, hz1, hz2⟩ := info_parts info8
  have u2 := Go.Lib.run_convert_bytes_const w6 22 5 #[.int .u8 71, .int .u8 73, .int .u8 70, .int .u8 56, .int .u8 57, .int .u8 97] 6 6 Try.underlying22 Try.underlying5
  obtain ⟨wa, hwa⟩ : ∃ wa, wa = (w6.alloc (.cells #[.int .u8 71, .int .u8 73, .int .u8 70, .int .u8 56, .int .u8 57, .int .u8 97] 5 (6, 7))).alloc (.cells #[.int .u8 (W : Nat), .int .u8 0, .int .u8 (H : Nat), .int .u8 0, .int .u8 129, .int .u8 0, .int .u8 0, .int .u8 1, .int .u8 2, .int .u8 3, .int .u8 4, .int .u8 5, .int .u8 6, .int .u8 7, .int .u8 8, .int .u8 9, .int .u8 10, .int .u8 11, .int .u8 12] 5) := ⟨_, rfl⟩
  have hm6 : wa.heap[w6.heap.size]? = some (.cells #[.int .u8 71, .int .u8 73, .int .u8 70, .int .u8 56, .int .u8 57, .int .u8 97] 5 (6, 7)) := by rw [hwa]; exact hp_alloc _ (hp_new0 _ _)
  have hm7 : wa.heap[w6.heap.size + 1]? = some (.cells #[.int .u8 (W : Nat), .int .u8 0, .int .u8 (H : Nat), .int .u8 0, .int .u8 129, .int .u8 0, .int .u8 0, .int .u8 1, .int .u8 2, .int .u8 3, .int .u8 4, .int .u8 5, .int .u8 6, .int .u8 7, .int .u8 8, .int .u8 9, .int .u8 10, .int .u8 11, .int .u8 12] 5 (0, 0)) := by
    have := hp_new0 (w6.alloc (.cells #[.int .u8 71, .int .u8 73, .int .u8 70, .int .u8 56, .int .u8 57, .int .u8 97] 5 (6, 7))) (.cells #[.int .u8 (W : Nat), .int .u8 0, .int .u8 (H : Nat), .int .u8 0, .int .u8 129, .int .u8 0, .int .u8 0, .int .u8 1, .int .u8 2, .int .u8 3, .int .u8 4, .int .u8 5, .int .u8 6, .int .u8 7, .int .u8 8, .int .u8 9, .int .u8 10, .int .u8 11, .int .u8 12] 5)
    rw [hwa]
    simpa using this
  have hBa : Below w6.heap.size w6 wa := by rw [hwa]; exact ((Below.refl _ w6).alloc (Nat.le_refl _) _).alloc (by simp) _
  obtain ⟨v7, w7, r7, ow7, g7⟩ := run_append_arg_grows (P := Try.prog) wa 22 22 5 i0 (.int .u8 0) 1 1 Try.underlying22 hi0 hz0 hz1 hz2 rfl (by omega)
    ⟨w6.heap.size, 0, none⟩ 6 6 (cellsB [71, 73, 70, 56, 57, 97]) rfl (fun j u hj => by
      rw [Addr.add_lit, Nat.zero_add]
      rw [cell_of_row _ w6.heap.size j _ 5 (6, 7) hm6, ← Array.getElem?_toList]
      exact hj) ⟨w6.heap.size + 1, 0, none⟩ 19 19 (cellsB [W, 0, H, 0, 129, 0, 0, 1, 2, 3, 4, 5, 6, 7, 8, 9, 10, 11, 12]) rfl (fun j u hj => by
      rw [Addr.add_lit, Nat.zero_add]
      rw [cell_of_row _ (w6.heap.size + 1) j _ 5 (0, 0) hm7, ← Array.getElem?_toList]
      exact hj) (by omega) (by unfold maxLen; omega) (by omega)
  have hcat : cellsB [71, 73, 70, 56, 57, 97] ++ cellsB [W, 0, H, 0, 129, 0, 0, 1, 2, 3, 4, 5, 6, 7, 8, 9, 10, 11, 12] = cellsB ([71, 73, 70, 56, 57, 97] ++ [W, 0, H, 0, 129, 0, 0, 1, 2, 3, 4, 5, 6, 7, 8, 9, 10, 11, 12]) := by simp [cellsB]
  rw [hcat] at ow7
  have o7 : OutR w6 v7 ([71, 73, 70, 56, 57, 97] ++ [W, 0, H, 0, 129, 0, 0, 1, 2, 3, 4, 5, 6, 7, 8, 9, 10, 11, 12]) w7 := ⟨own_len (by simp) (own_le2 hBa.size ow7), hBa.grown g7 hBa.size (fun k e => by cases e)⟩
  rw [hwa] at r7
  have HR7 := Lib.hid r7
  obtain ⟨v8, w8, r8, o8⟩ := o7.new [33, 249, 4, 1, 0, 0, cl, 0] #[.int .u8 33, .int .u8 249, .int .u8 4, .int .u8 1, .int .u8 0, .int .u8 0, .int .u8 (cl : Nat), .int .u8 0] rfl (by simp) (by simp)
  have HR8 := Lib.hid r8
  obtain ⟨O8, hO8⟩ : ∃ l, l = ([71, 73, 70, 56, 57, 97] ++ [W, 0, H, 0, 129, 0, 0, 1, 2, 3, 4, 5, 6, 7, 8, 9, 10, 11, 12]) ++ [33, 249, 4, 1, 0, 0, cl, 0] := ⟨_, rfl⟩
  rw [← hO8] at o8
  have hO8l : O8.length = 33 := by rw [hO8]; rfl
  have HO8E := Lib.hid hO8
  have HO8 := Lib.hid o8
  clear r7 o7 hwa hm6 hm7 hBa ow7 g7 hcat r8 hO8 o8
  go_upto_if 99 with (at_builtin; first | ((with_reducible refine wpList_app (o := ⟨some 93, _, _, _, _, _⟩) ?_ (.tmp 87) (.tmp 92) 22 ?_ _ _ _ _ ?_ ?_ HR7.out ?_); rfl; rfl; rfl; rfl) | ((with_reducible refine wpList_app (o := ⟨some 98, _, _, _, _, _⟩) ?_ (.tmp 94) (.tmp 97) 22 ?_ _ _ _ _ ?_ ?_ HR8.out ?_); rfl; rfl; rfl; rfl))
  clear u2 HR7 HR8
  go_cut [15] (fun s15 wx => s15 = .int .u8 ((if lac = true then 64 else 0 : Nat) : Int) ∧ Hid (OutR w6 v8 O8 wx))
  case first =>
    cases lac with
    | true =>
      go_wp2_with fail
      go_meet
      exact ⟨rfl, HO8⟩
    | false =>
      go_wp2_with fail
      go_meet
      exact ⟨rfl, HO8⟩
  case rest =>
  clear HO8
  obtain ⟨rfl, HO8⟩ := hcut
  obtain ⟨f1, hf1⟩ : ∃ f1 : Nat, f1 = (if lac = true then 64 else 0) := ⟨_, rfl⟩
  rw [← hf1]
  have HF1 := Lib.hid hf1
  clear hf1
  go_upto_if 100 with fail
  go_cut [15] (fun s15 wx => s15 = .int .u8 ((frFl lac loc : Nat) : Int) ∧ Hid (OutR w6 v8 O8 wx))
  case first =>
    have hf1 := HF1.out
    have k1 : bits .or .u8 (f1 : Int) 129 = ((f1 + 129 : Nat) : Int) := by rw [hf1]; cases lac <;> rfl
    clear HF1
    cases loc with
    | true =>
      have k2 := Lib.hid (show f1 + 129 = frFl lac true by rw [hf1]; rfl)
      have k3 : f1 + 129 < 256 := by rw [hf1]; cases lac <;> decide
      clear hf1
      go_wp2_with fail
      go_meet
      rw [← k2.out]
      exact ⟨by first | rfl | (congr 1; omega), HO8⟩
    | false =>
      have k2 := Lib.hid (show f1 = frFl lac false by rw [hf1]; rfl)
      clear hf1
      go_wp2_with fail
      go_meet
      rw [← k2.out]
      exact ⟨rfl, HO8⟩
  case rest =>
  clear HO8
  obtain ⟨rfl, HO8⟩ := hcut
  clear HF1
  obtain ⟨fl, hfl⟩ : ∃ fl, fl = frFl lac loc := ⟨_, rfl⟩
  have hflb : fl < 256 := by rw [hfl]; cases lac <;> cases loc <;> decide
  rw [← hfl]
  obtain ⟨v9, w9, r9, o9⟩ := HO8.out.new [44, le, 0, tp, 0, fw, 0, fh, 0, fl] #[.int .u8 44, .int .u8 (le : Nat), .int .u8 0, .int .u8 (tp : Nat), .int .u8 0, .int .u8 (fw : Nat), .int .u8 0, .int .u8 (fh : Nat), .int .u8 0, .int .u8 (fl : Nat)] rfl (by omega) (by simp)
  obtain ⟨O9, hO9⟩ : ∃ l, l = O8 ++ [44, le, 0, tp, 0, fw, 0, fh, 0, fl] := ⟨_, rfl⟩
  rw [← hO9] at o9
  have hO9l : O9.length = 43 := by rw [hO9, List.length_append, hO8l]; rfl
  have HR9 := Lib.hid r9
  have HO9 := Lib.hid o9
  have HO9E := Lib.hid hO9
  have HFL := Lib.hid hfl
  clear r9 o9 hO9 hfl HO8
  go_upto_if 115 with (at_builtin; ((with_reducible refine wpList_app (o := ⟨some 114, _, _, _, _, _⟩) ?_ (.tmp 103) (.tmp 113) 22 ?_ _ _ _ _ ?_ ?_ HR9.out ?_); rfl; rfl; rfl; rfl))
  clear HR9
  go_cut [14, 16] (fun s14 s16 wx => s16 = .int .u8 ((if loc = true then 20 else 0 : Nat) : Int) ∧ OutR w6 s14 (O9 ++ frT loc) wx)
  case first =>
    cases loc with
    | true =>
      obtain ⟨va, wa, ra, oa⟩ := HO9.out.new [21, 22, 23, 24, 25, 26, 27, 28, 29, 30, 31, 32] #[.int .u8 21, .int .u8 22, .int .u8 23, .int .u8 24, .int .u8 25, .int .u8 26, .int .u8 27, .int .u8 28, .int .u8 29, .int .u8 30, .int .u8 31, .int .u8 32] rfl (by omega) (by simp)
      have HRA := Lib.hid ra
      have HOA := Lib.hid oa
      clear ra oa
      go_wp2_with (at_builtin; ((with_reducible refine wpList_app (o := ⟨some 118, _, _, _, _, _⟩) ?_ (.tmp 116) (.tmp 117) 22 ?_ _ _ _ _ ?_ ?_ HRA.out ?_); rfl; rfl; rfl; rfl))
      go_meet
      exact ⟨rfl, HOA.out⟩
    | false =>
      go_wp2_with fail
      go_meet
      exact ⟨rfl, by rw [show frT false = [] from rfl, List.append_nil]; exact HO9.out⟩
  case rest =>
  obtain ⟨rfl, hOA⟩ := hcut
  obtain ⟨O10, hO10⟩ : ∃ l, l = O9 ++ frT loc := ⟨_, rfl⟩
  rw [← hO10] at hOA
  have hO10l : O10.length ≤ 60 := by rw [hO10, List.length_append, hO9l, frT_len]; split <;> omega
  obtain ⟨add, hadd⟩ : ∃ add : Nat, add = (if loc = true then 20 else 0) := ⟨_, rfl⟩
  have haddb : add ≤ 20 := by rw [hadd]; split <;> omega
  rw [← hadd]
  have HOA := Lib.hid hOA
  have HO10E := Lib.hid hO10
  have HADD := Lib.hid hadd
  obtain ⟨wb, hwb⟩ : ∃ wb, wb = wc := ⟨_, rfl⟩
  subst hwb
  clear hOA hO10 hadd HO9
  -- the places
  obtain ⟨F, hF⟩ : ∃ F, F = fw * fh := ⟨_, rfl⟩
  have hFb : F ≤ 400 := by rw [hF]; exact Nat.le_trans (Nat.mul_le_mul (show fw ≤ 20 by omega) (show fh ≤ 20 by omega)) (by omega)
  have hFI : (fw : Int) * (fh : Int) = (F : Int) := by rw [hF]; simp
  have HF := Lib.hid hF
  have HFI := Lib.hid hFI
  have HPB := Lib.hid (HP6.out.below HOA.out.2)
  clear hF hFI
  go_wp2_with fail
  go_loopw [17, 18] (fun s17 s18 wr => ∃ (i : Nat) (v : Value), v = s17 ∧ i ≤ F ∧ s18 = .int .i64 (i : Nat) ∧ OutR wb v (plF d m i) wr) (fun _ s18 _ => F - (intOf s18).toNat)
  case atStart => exact ⟨0, _, rfl, by omega, rfl, World.ownsRow_nil _ _ _ _, Below.refl _ _⟩
  case round =>
    obtain ⟨i, v, hv, hi, rfl, hO⟩ := hrel
    subst hv
    have hFI := HFI.out
    by_cases hlt : i < F
    · obtain ⟨bk, of, rfl, hbk, hci⟩ := (HPB.out.below hO.2) (by omega)
      obtain ⟨r, hr⟩ : ∃ r, r = i % m := ⟨_, rfl⟩
      have hrm : r < m := by rw [hr]; exact Nat.mod_lt _ (by omega)
      have c0 := hci r hrm
      have g0 : (i : Int) % (m : Int) = (r : Int) := by rw [hr]; simp
      have g0' : Int.tmod (i : Int) (m : Int) = (r : Int) := by rw [Int.tmod_eq_emod_of_nonneg (by omega), g0]
      have z0 : ((m : Int) == 0) = false := beq_eq_false_iff_ne.2 (by omega)
      have hdr := HD.out r
      obtain ⟨x, hx⟩ : ∃ x, x = d r := ⟨_, rfl⟩
      rw [← hx] at c0 hdr
      have ax := and3 x hdr
      have hpl := plF_succ d m i
      rw [← hr, ← hx] at hpl
      obtain ⟨y, hy⟩ : ∃ y, y = x % 4 := ⟨_, rfl⟩
      rw [← hy] at ax hpl
      have hyb : y < 4 := by omega
      have hol := plF_len d m i
      obtain ⟨v2, w2', r2, o2⟩ := hO.new [y] #[.int .u8 (y : Nat)] rfl (by omega) (by simp)
      rw [← hpl] at o2
      have HR2 := Lib.hid r2
      have HO2 := Lib.hid o2
      clear hci r2 o2 hpl hr hx hy hO hol
      go_wp2_with (at_builtin; ((with_reducible refine wpList_app (o := ⟨some 136, _, _, _, _, _⟩) ?_ (.tmp 126) (.tmp 135) 22 ?_ _ _ _ _ ?_ ?_ HR2.out ?_); rfl; rfl; rfl; rfl))
      go_roundw
      case rel => exact ⟨i + 1, _, rfl, by omega, by go_num, HO2.out⟩
      case measure => simp [intOf]; omega
    · obtain rfl : i = F := by omega
      have hOB : OutR w6 _ O10 wr := ⟨own_chg HOA.out.1 (Chg.of_below (S := []) hO.2) (fun _ _ => by simp), HOA.out.2.trans (hO.2.mono HOA.out.2.size)⟩
      have hblt := HOA.out.1.lt
      obtain ⟨v12, w12, r12, o12, hs12, g12⟩ := hOB.newK [2] #[.int .u8 2] rfl (by omega) (by simp)
      obtain ⟨Ap, cp, hve, q1, q2, q3, q4⟩ := byt_of_row hO.1
      have hof : ∀ a, Ap = some a → a.block < wr.heap.size ∧ v12.ownBlock ≠ some a.block ∧ w12.heap[a.block]? = wr.heap[a.block]? := fun a ha => by
        have hb : v.ownBlock = some a.block := by rw [hve, ha]; rfl
        obtain ⟨b1, b2⟩ := hO.1.lt _ hb
        exact ⟨b2, g12 _ b2 (fun e => by have := (hblt _ e).2; omega)⟩
      have HPY : Hid (Byt w12 Ap (plF d m i).length (gz (plF d m i))) := Lib.hid (q4.blk (fun a ha => (hof a ha).2.2) hs12)
      have HOF := Lib.hid (show ∀ a, Ap = some a → v12.ownBlock ≠ some a.block ∧ a.block < w12.heap.size from fun a ha => ⟨(hof a ha).2.1, Nat.lt_of_lt_of_le (hof a ha).1 hs12⟩)
      rw [plF_len] at hve q1
      subst hve
      have HR12 := Lib.hid r12
      have HO12 := Lib.hid o12
      clear r12 o12 g12 hOB hblt hO q4 hof hs12
      go_wp2_with (at_builtin; ((with_reducible refine wpList_app (o := ⟨some 139, _, _, _, _, _⟩) ?_ (.tmp 137) (.tmp 138) 22 ?_ _ _ _ _ ?_ ?_ HR12.out ?_); rfl; rfl; rfl; rfl))
      obtain ⟨P, hPe⟩ : ∃ P, P = plF d m i := ⟨_, rfl⟩
      have hPl := plF_len d m i
      have hP4 := plF_lt d m i
      rw [← hPe] at hPl hP4 HPY
      have HP4 := Lib.hid hP4
      clear hPe hP4
      have hP256 : ∀ v ∈ P, v < 256 := fun v hv => by have := HP4.out v hv; omega
      have hcall := write_plain Ap cp P hP256 2 (by omega) (by omega) (by omega) _ HPY.out
      rw [hPl] at hcall
      refine hcall.mono ?_
      rintro e w17 ⟨A17, c17, rfl, hN17, hB17⟩
      obtain ⟨hz1', hzl⟩ := wlz_facts 2 (by omega) (by omega) P (fun v hv => by have := HP4.out v hv; simpa using this) i (by omega)
      obtain ⟨z, hz9⟩ : ∃ z, z = wlz 2 P := ⟨_, rfl⟩
      rw [show (pack false (cb (2 + 1) ((plC (2 ^ 2) P).2 ++ [2 ^ 2 + 1]))).1 = z from hz9.symm] at hN17 ⊢
      rw [← hz9] at hzl hz1'
      have hz8 : ∀ v ∈ z, v < 256 := fun v hv => by rw [hz9] at hv; exact wlz_lt _ _ v hv
      have HZ8 := Lib.hid hz8
      have HZL := Lib.hid hz1'
      have HN17 := Lib.hid hN17
      have hPY17 := HPY.out.below hB17
      have hs17 := hB17.size
      obtain ⟨O12, hO12e⟩ : ∃ l, l = O10 ++ [2] := ⟨_, rfl⟩
      rw [← hO12e] at HO12
      have hl12 : O12.length ≤ 70 := by rw [hO12e, List.length_append]; simp; omega
      have HO12E := Lib.hid hO12e
      have ho17 : OutR w6 v12 O12 w17 := ⟨own_chg HO12.out.1 (Chg.of_below (S := []) hB17) (fun _ _ => by simp), HO12.out.2.trans (hB17.mono HO12.out.2.size)⟩
      have HO17 := Lib.hid ho17
      have HPY17 := Lib.hid hPY17
      clear hcall hN17 hB17 ho17 hz9 HR12 HO12 hO12e HPY hz8 hz1' hPY17 hP256
      go_wp2_with fail
      refine (blk_ref A17 c17 z HZ8.out HN17.out.le HN17.out.max HN17.out.nil (by omega) _ HN17.out.byt).mono ?_
      rintro e w18 ⟨A18, c18, rfl, hN18, hB18⟩
      have hbl := blkV_len z
      have o18 : OutR w6 v12 O12 w18 := ⟨own_chg HO17.out.1 (Chg.of_below (S := []) hB18) (fun _ _ => by simp), HO17.out.2.trans (hB18.mono HO17.out.2.size)⟩
      obtain ⟨v19, w19, r19, o19, hs19, g19⟩ := o18.oldK (blkV z) (A := A18) (cap := c18) (by omega) (by omega) hN18.nil hN18.byt
      have hPY18 := HPY17.out.below hB18
      have hPY19 := hPY18.blk (w' := w19) (fun a ha => by
        obtain ⟨b1, b2⟩ := HOF.out a ha
        exact (g19 _ (Nat.lt_of_lt_of_le b2 (Nat.le_trans hs17 hB18.size)) b1).2) hs19
      have hall : O12 ++ blkV z = frF W H le tp fw fh cl lac loc z := by
        rw [HO12E.out, HO10E.out, HO9E.out, HO8E.out, HFL.out]
        unfold frF frH
        simp
      rw [hall] at o19
      have hFl := frF_len W H le tp fw fh cl lac loc z
      obtain ⟨FF, hFF⟩ : ∃ FF, FF = frF W H le tp fw fh cl lac loc z := ⟨_, rfl⟩
      rw [← hFF] at o19 hFl
      have hFb2 : FF.length ≤ 20000 := by rw [hFl]; split <;> omega
      obtain ⟨o19r, b19⟩ := o19
      rw [← cells8_gz] at o19r
      obtain ⟨A20, c20, he20, hN20⟩ := NewB.of_own o19r
      subst he20
      have HR19 := Lib.hid r19
      have HN20 := Lib.hid hN20
      have HFF := Lib.hid hFF
      have HPQ := Lib.hid hPY19
      have HBE := Lib.hid (HB6.out.trans (b19.mono HB6.out.size))
      have hs6 : w.heap.size ≤ w6.heap.size := HB6.out.size
      clear o18 r19 o19r g19 hPY18 hPY19 hall hFF hN20 b19 hN18 hB18 hFl hs17 hs19 HOF HPY17 HO17 HN17
      go_upto_region 28 with (at_builtin; ((with_reducible refine wpList_app (o := ⟨some 143, _, _, _, _, _⟩) ?_ (.tmp 139) (.tmp 142) 22 ?_ _ _ _ _ ?_ ?_ HR19.out ?_); rfl; rfl; rfl; rfl))
      clear HR19
      obtain ⟨fm, hfm⟩ : ∃ fm, fm = FF.length := ⟨_, rfl⟩
      rw [← hfm] at HN20 ⊢
      have HFM := Lib.hid hfm
      clear hfm
      go_wp2_with fail
      have hfi := HF.out
      refine (dec_frame (W := W) (H := H) (le := le) (tp := tp) (fw := fw) (fh := fh) (cl := cl) lac loc (D := z) (P := P) hWb hHb hfwb.2 hfhb.2 ⟨hfwb.1, hfhb.1⟩ (by omega) (by omega) HZ8.out (by rw [hPl, hfi]) HP4.out (by rw [← hfi]; exact HZL.out) A20 fm c20 (by rw [HFM.out, HFF.out]) HN20.out.le HN20.out.max HN20.out.nil w19 (by rw [← HFF.out]; exact HN20.out.byt)).mono ?_
      rintro e w21 ⟨A21, c21, dd, rfl, h4n, h4c, hO21, hdd, hB21⟩
      obtain ⟨n4, hn4⟩ : ∃ n4, n4 = 4 * (W * H) := ⟨_, rfl⟩
      rw [← hn4] at h4n hO21 ⊢
      have hWH : W * H ≤ 400 := Nat.le_trans (Nat.mul_le_mul hWb.2 hHb.2) (by omega)
      have hWH1 : 1 * 1 ≤ W * H := Nat.mul_le_mul hWb.1 hHb.1
      have hsz : sizeE (W : Nat) (H : Nat) = 0 := by
        have : ∀ x : Fin 21, ∀ y : Fin 21, 1 ≤ x.val → 1 ≤ y.val → sizeE (x.val : Nat) (y.val : Nat) = 0 := by decide
        exact this ⟨W, by omega⟩ ⟨H, by omega⟩ hWb.1 hHb.1
      have hmb : mayB (W : Nat) (H : Nat) n4 = true := by
        rw [mayB, decide_eq_true_eq]
        exact ⟨hsz, by rw [hn4, Int.mul_assoc]; simp⟩
      have HMB := Lib.hid hmb
      have HSZ := Lib.hid hsz
      have HN4 := Lib.hid hn4
      have hal21 : Below w21.heap.size w21 (w21.alloc (.cells #[.int .i64 (W : Nat), .int .i64 (H : Nat), .slice A21 n4 c21] 26)) := (Below.refl _ w21).alloc (Nat.le_refl _) _
      have hb22 := hB21.trans (hal21.mono hB21.size)
      have HR22 := Lib.hid (hp_new0 w21 (.cells #[.int .i64 (W : Nat), .int .i64 (H : Nat), .slice A21 n4 c21] 26))
      have HX22 := Lib.hid (hO21.below hal21).pix
      have HB22 := Lib.hid (HBE.out.trans (hb22.mono HBE.out.size))
      have HP22 := Lib.hid (HPQ.out.below hb22)
      have HDD := Lib.hid hdd
      have hn4b : n4 ≤ 1600 ∧ 4 ≤ n4 := by omega
      clear hB21 hal21 hb22 hO21 hdd hn4 hmb hsz hWH hWH1 HPQ HBE HN20 HFF HFM HZL HZ8 hzl hbl hfi
      have k0 := hp_cell (j := 0) HR22.out rfl
      have k1 := hp_cell (j := 1) HR22.out rfl
      have k2 := hp_cell (j := 2) HR22.out rfl
      go_wp2_with fail
      generalize w21.alloc (.cells #[.int .i64 (W : Nat), .int .i64 (H : Nat), .slice A21 n4 c21] 26) = w22 at *
      obtain ⟨rb, hrb⟩ : ∃ rb, rb = w21.heap.size := ⟨_, rfl⟩
      rw [← hrb] at HR22 k0 k1 k2 ⊢
      clear hrb
      refine (may_ref (W : Nat) (H : Nat) A21 n4 c21 (by unfold In64; omega) (by unfold In64; omega) h4n h4c _).mono ?_
      rintro e w23 ⟨rfl, hB23⟩
      rw [HMB.out]
      have HR23 := Lib.hid (hp_below HR22.out hB23 (lt_heap HR22.out))
      have HX23 := Lib.hid (HX22.out.below hB23)
      have HB23 := Lib.hid (HB22.out.trans (hB23.mono HB22.out.size))
      have HP23 := Lib.hid (HP22.out.below hB23)
      clear hB23 k0 k1 k2 HR22 HX22 HB22 HP22
      go_wp2_with fail
      have hfh1 : 1 ≤ fh := hfhb.1
      refine (rows_ref fh hfh1 (by omega) _).mono ?_
      rintro e w24 ⟨vR, rfl, hoR, hB24⟩
      obtain ⟨hRl, AR, cR, rfl, hR1, hR2, hR3⟩ := Sl.of_own hoR
      rw [rowsG_len fh hfh1] at hR1 hR3 hRl
      have HSR : Hid (Sl w24 (.slice AR fh cR) 1 fh (cellsI (rowsG fh))) := Lib.hid ⟨hRl, AR, cR, rfl, hR1, hR2, hR3⟩
      have HR24 := Lib.hid (hp_below HR23.out hB24 (lt_heap HR23.out))
      have HX24 := Lib.hid (HX23.out.below hB24)
      have HB24 := Lib.hid (HB23.out.trans (hB24.mono HB23.out.size))
      have HP24 := Lib.hid (HP23.out.below hB24)
      rw [rowsG_len fh hfh1]
      clear hoR hB24 hR1 hR2 hR3 hRl HR23 HX23 HB23 HP23
      go_wp2_with fail
      refine (new_ref (W : Nat) (H : Nat) (by unfold In64; omega) (by unfold In64; omega) _).mono ?_
      rintro e w25 ⟨hB25, ⟨_, vN, rfl, hown⟩ | ⟨h, _⟩⟩
      rotate_left
      · exact absurd HSZ.out h
      have h4N : (4 * (W : Int) * (H : Int)).toNat = n4 := by
        rw [Int.mul_assoc, ← Int.natCast_mul, HN4.out]
        omega
      rw [h4N, zeros_16] at hown
      obtain ⟨A', cap', rfl, hn', hc', _, hO⟩ := NewRow.of_row hown
      obtain ⟨xb, hxb⟩ : ∃ xb, xb = w24.heap.size := ⟨_, rfl⟩
      rw [← hxb] at hB25 hO
      have hs25 : xb ≤ w25.heap.size := by rw [hxb]; exact hB25.size
      have hAr : ∀ k, A' = some ⟨k, 0, none⟩ → k < w25.heap.size := fun k hk => (hO.lt k (by omega) hk).2
      have hal : Below w25.heap.size w25 (w25.alloc (.cells #[.int .i64 (W : Nat), .int .i64 (H : Nat), .slice A' n4 cap'] 26)) := (Below.refl _ w25).alloc (Nat.le_refl _) _
      have HO0 := Lib.hid (hO.below hal)
      have HQ0 := Lib.hid (hp_new0 w25 (.cells #[.int .i64 (W : Nat), .int .i64 (H : Nat), .slice A' n4 cap'] 26))
      have HBX0 := Lib.hid (hB25.trans (hal.mono hs25))
      have HNE := Lib.hid (show ∀ k, 0 < n4 → A' = some ⟨k, 0, none⟩ → k ≠ w25.heap.size from fun k _ hk => Nat.ne_of_lt (hAr k hk))
      have HXB := Lib.hid hxb
      have hrb24 : rb < w24.heap.size := lt_heap HR24.out
      clear hown hB25 hO h4N hal hAr hxb
      go_wp2_with fail
      generalize w25.alloc (.cells #[.int .i64 (W : Nat), .int .i64 (H : Nat), .slice A' n4 cap'] 26) = w26 at *
      obtain ⟨qb, hqb⟩ : ∃ qb, qb = w25.heap.size := ⟨_, rfl⟩
      rw [← hqb] at HQ0 hs25 HNE ⊢
      clear hqb
      have HE0 : Hid (drawG W fw le tp lac (rowsG fh) (colF add) (cl : Int) (P.drop 0) 0 noP = some dd) := Lib.hid (by rw [HADD.out]; exact HDD.out)
      go_loopw [24] (fun x wr => ∃ (k : Nat) (ck : Nat → Nat), k ≤ i ∧ x = .int .i64 (k : Nat) ∧ Below xb w24 wr ∧ wr.heap[qb]? = some (.cells #[.int .i64 (W : Nat), .int .i64 (H : Nat), .slice A' n4 cap'] 26 (0, 0)) ∧ Own (xb + 1) wr A' n4 ck ∧ Hid (drawG W fw le tp lac (rowsG fh) (colF add) (cl : Int) (P.drop k) k ck = some dd)) (fun x _ => i - (intOf x).toNat)
      case atStart => exact ⟨0, noP, by omega, rfl, HBX0.out, HQ0.out, HO0.out, HE0⟩
      case round => as_aux_lemma =>
        clear HE0 HBX0 HQ0 HO0
        obtain ⟨k, ck, hkF, rfl, hB, hQ, hO, hrr⟩ := hrel
        have hB' : Below w24.heap.size w24 wr := by rw [← HXB.out]; exact hB
        have HRr := Lib.hid (hp_below HR24.out hB' hrb24)
        have HSr := Lib.hid (HSR.out.below hB')
        have HPr := Lib.hid (HP24.out.below hB')
        have HXr := Lib.hid (HX24.out.below hB')
        have HBr := Lib.hid (HB24.out.trans (hB'.mono HB24.out.size))
        have HYr := Lib.hid hB
        have hxr : xb ≤ wr.heap.size := by rw [HXB.out]; exact hB.size
        have HQr := Lib.hid hQ
        have HOr := Lib.hid hO
        have hqw : qb < wr.heap.size := lt_heap hQ
        clear hB hB' hQ hO
        by_cases hlt : k < i
        · obtain ⟨b5, o5, rfl, hb5, hc5⟩ := HPr.out (by rw [hPl]; omega)
          have c0 := hc5 k (by rw [hPl]; exact hlt)
          have hx4 := HP4.out (gz P k) (gz_mem (by rw [hPl]; exact hlt))
          have hdrop := drop_gz P k (by rw [hPl]; exact hlt)
          obtain ⟨x, hx⟩ : ∃ x, x = gz P k := ⟨_, rfl⟩
          rw [← hx] at c0 hx4 hdrop
          have hrr2 := hrr.out
          rw [hdrop, drawG] at hrr2
          have HRR := Lib.hid hrr2
          clear hrr hrr2 hdrop hx hc5
          obtain ⟨Y, hY⟩ : ∃ Y, Y = k / fw := ⟨_, rfl⟩
          obtain ⟨M, hM⟩ : ∃ M, M = k % fw := ⟨_, rfl⟩
          have hYh : Y < fh := by
            rw [hY]
            refine Nat.div_lt_of_lt_mul ?_
            rw [← HF.out]
            exact hlt
          have hMw : M < fw := by rw [hM]; exact Nat.mod_lt _ (by omega)
          have q1 : (k : Int) / (fw : Int) = (Y : Int) := by rw [hY]; simp
          have q2 : Int.tdiv (k : Int) (fw : Int) = (Y : Int) := by rw [Int.tdiv_eq_ediv_of_nonneg (by omega), q1]
          have q5 : ((fw : Int) == 0) = false := beq_eq_false_iff_ne.2 (by omega)
          have q6 : IntKind.i64.wrap (Y : Int) = (Y : Int) := IntWalk.i64_in _ (by omega)
          have q3 : (k : Int) % (fw : Int) = (M : Int) := by rw [hM]; simp
          have q4 : Int.tmod (k : Int) (fw : Int) = (M : Int) := by rw [Int.tmod_eq_emod_of_nonneg (by omega), q3]
          have HY := Lib.hid hY
          have HM := Lib.hid hM
          have HQ3 := Lib.hid q3
          have HQ4 := Lib.hid q4
          clear hY hM q3 q4
          go_upto_if 185 with fail
          clear q1 q2 q6
          go_cut [25] (fun s25 wx => ∃ Z : Nat, s25 = .int .i64 (Z : Nat) ∧ Z = (if lac = true then gz (rowsG fh) Y else Y) ∧ wx = wr)
          case first =>
            cases lac with
            | true =>
              obtain ⟨bR, oR, hRe, hbR, hcR⟩ := HSr.out.cell (by omega)
              have hcy := hcR Y (by omega)
              rw [cellsI_get _ _ (by rw [rowsG_len fh hfh1]; exact hYh)] at hcy
              subst hRe
              clear hcR
              go_wp2_with fail
              go_meet
              exact ⟨_, rfl, by simp, rfl⟩
            | false =>
              go_wp2_with fail
              go_meet
              exact ⟨_, rfl, by simp, rfl⟩
          case rest =>
          obtain ⟨Z, rfl, hZ, hwc⟩ := hcut
          subst hwc
          obtain ⟨wo, hwo⟩ : ∃ wo, wo = wc := ⟨_, rfl⟩
          subst hwo
          have hZb : Z < fh := by
            rw [hZ]
            split
            · exact rowsG_lt fh _ (gz_mem (by rw [rowsG_len fh hfh1]; exact hYh))
            · exact hYh
          have HZZ := Lib.hid hZ
          clear hZ
          by_cases hk : (x : Int) = (cl : Int)
          · have t5 : ((x : Int) == (cl : Int)) = true := by rw [beq_iff_eq]; exact hk
            have hE5 := HRR.out
            rw [if_pos hk] at hE5
            have HE5 := Lib.hid hE5
            clear hE5 hk
            go_wp2_with fail
            go_roundw
            case rel => exact ⟨k + 1, ck, hlt, by go_num, HYr.out, HQr.out, HOr.out, HE5⟩
            case measure => simp [intOf]; omega
          have t5 : ((x : Int) == (cl : Int)) = false := beq_eq_false_iff_ne.2 hk
          have hE5 := HRR.out
          rw [if_neg hk, if_neg (by rw [colF_len]; omega), colF_get _ _ hx4] at hE5
          have HE5 := Lib.hid hE5
          clear hE5 hk HRR
          obtain ⟨wd, hwd⟩ : ∃ wd, wd = wo.alloc (.cells (colA add x 0) 47) := ⟨_, rfl⟩
          have hcb0 : wd.heap[wo.heap.size]? = some (.cells (colA add x 0) 47 (0, 0)) := by rw [hwd]; exact hp_new0 _ _
          have hBd : Below wo.heap.size wo wd := by rw [hwd]; exact (Below.refl _ wo).alloc (Nat.le_refl _) _
          have HCB0 := Lib.hid hcb0
          have HBD := Lib.hid hBd
          have hcol0 : (wo.alloc (.cells #[.int .u16 0, .int .u16 0, .int .u16 0, .int .u16 65535] 47)) = wd := hwd.symm
          have HC0 := Lib.hid hcol0
          clear hwd hcb0 hBd hcol0
          go_wp2_with fail
          rw [HC0.out]
          go_loopw [27] (fun x27 wx => ∃ j : Nat, j ≤ 3 ∧ x27 = .int .i64 (j : Nat) ∧ Below wo.heap.size wo wx ∧ wx.heap[wo.heap.size]? = some (.cells (colA add x j) 47 (0, 0))) (fun x27 _ => 3 - (intOf x27).toNat)
          case atStart => exact ⟨0, by omega, rfl, HBD.out, HCB0.out⟩
          case round => as_aux_lemma =>
            clear HCB0 HBD HC0
            obtain ⟨j, hj3, rfl, hB, hC⟩ := hrel
            by_cases hj : j < 3
            · have cc := (hB.cell (lt_of_cell c0)).trans c0
              have hfz := hp_froz hC
              have hst := heap_set (i := j) (x := .int .u16 (((add + 3 * x + j + 1) * 257 : Nat) : Int)) hC
              rw [colA_set add x j hj] at hst
              have hvl : (((add + 3 * x + j + 1) * 257 : Nat) : Int) = ((add : Int) + 3 * (x : Int) + (j : Int) + 1) * 257 := by simp
              rw [hvl] at hst
              have HST := Lib.hid hst
              have HBS := Lib.hid (hB.setCell (p := ⟨wo.heap.size, j, none⟩) (Nat.le_refl _) (.int .u16 (((add : Int) + 3 * (x : Int) + (j : Int) + 1) * 257)))
              obtain ⟨u9, hu9⟩ := colA_get add x j j hj
              have ccj := hp_cell (j := j) hC hu9
              clear hst hvl hu9 hB hC
              go_wp2_with fail
              go_roundw
              case rel => exact ⟨j + 1, by omega, by go_num, HBS.out, HST.out⟩
              case measure => simp [intOf]; omega
            · obtain rfl : j = 3 := by omega
              obtain ⟨e0, he0⟩ : ∃ e0, e0 = (add + 3 * x + 1) * 257 := ⟨_, rfl⟩
              obtain ⟨e1, he1⟩ : ∃ e1, e1 = (add + 3 * x + 2) * 257 := ⟨_, rfl⟩
              obtain ⟨e2, he2⟩ : ∃ e2, e2 = (add + 3 * x + 3) * 257 := ⟨_, rfl⟩
              rw [colA_three, ← he0, ← he1, ← he2] at hC
              have p0 := hp_cell (j := 0) hC rfl
              have p1 := hp_cell (j := 1) hC rfl
              have p2 := hp_cell (j := 2) hC rfl
              have p3 := hp_cell (j := 3) hC rfl
              rw [← he0, ← he1, ← he2] at HE5
              have HQ2 := Lib.hid (hp_below HQr.out hB hqw)
              have k0 := hp_cell (j := 0) HQ2.out rfl
              have k1 := hp_cell (j := 1) HQ2.out rfl
              have k2 := hp_cell (j := 2) HQ2.out rfl
              have Z1 : Hid (IntKind.i64.wrap ((le : Int) + (M : Int)) = (le : Int) + (M : Int)) := Lib.hid (IntWalk.i64_in _ (by omega))
              have Z2 : Hid (IntKind.i64.wrap ((tp : Int) + (Z : Int)) = (tp : Int) + (Z : Int)) := Lib.hid (IntWalk.i64_in _ (by omega))
              have hBd : Below wo.heap.size wo wr.drew := hB.drew
              have HOd := Lib.hid (HOr.out.below hBd)
              have HYd := Lib.hid (HYr.out.trans (hBd.mono hxr))
              have HQd : Hid (wr.drew.heap[qb]? = some (.cells #[.int .i64 (W : Nat), .int .i64 (H : Nat), .slice A' n4 cap'] 26 (0, 0))) := Lib.hid HQ2.out
              have hxd1 : xb + 1 ≤ wr.drew.heap.size := by have h1 := lt_heap HQd.out; have h2 : xb ≤ wo.heap.size := hxr; have h3 := hBd.size; have h4 : wo.heap.size < wr.heap.size := lt_heap hC; show xb + 1 ≤ wr.heap.size; omega
              clear hC hB hBd he0 he1 he2 c0
              have q3 := HQ3.out
              have q4 := HQ4.out
              have q9 : ¬ fw = 0 := by omega
              have z1 := Z1.out
              have z2 := Z2.out
              go_upto_region 45 with fail
              go_still_tail 10, (by kernel_rfl)
              repeat still_step
              try refine wpStill_nil ?_
              change wpList _ _ _ _ _ wr.drew
              clear p0 p1 p2 p3 k0 k1 k2 z1 z2 q3 q4
              go_wp2_with fail
              refine (setr_any (W : Nat) (H : Nat) A' n4 cap' ck ((le : Int) + (M : Int)) ((tp : Int) + (Z : Int)) (e0, e1, e2, 65535) (by unfold In64; omega) (by unfold In64; omega) hn' hc' _ HOd.out).mono ?_
              rintro e w10 ⟨rfl, h1, h2, h3⟩
              have HY10 := Lib.hid (HYd.out.trans ((h1 hxd1).mono (Nat.le_succ _)))
              have HQ10 := Lib.hid (h2 qb _ HQd.out (fun k hn hA => HNE.out k hn hA))
              have hin : inB (W : Nat) (H : Nat) n4 ((le : Int) + (M : Int)) ((tp : Int) + (Z : Int)) = true := by
                have := inB_xy (a := W) (b := H) (n := n4) (x := le + M) (y := tp + Z) HMB.out (by omega) (by omega)
                rwa [Int.natCast_add, Int.natCast_add] at this
              have hset : setD (W : Nat) (H : Nat) n4 ck ((le : Int) + (M : Int)) ((tp : Int) + (Z : Int)) (e0, e1, e2, 65535) = setC ck ((tp + Z) * W + (le + M)) (e0, e1, e2, 65535) := by
                unfold setD
                rw [if_pos hin]
                congr 1
              rw [hset] at h3
              have HO10 := Lib.hid h3
              have hE6 := HE5.out
              rw [← HY.out, ← HM.out, ← HZZ.out] at hE6
              have HE6 := Lib.hid hE6
              clear hE6 h1 h2 h3 hin hset
              go_wp2_with fail
              go_roundw
              case rel => exact ⟨k + 1, _, hlt, by go_num, HY10.out, HQ10.out, HO10.out, HE6⟩
              case measure => simp [intOf]; omega
        · have HK := Lib.hid (show k = i by omega)
          have hE := hrr.out
          rw [HK.out, List.drop_of_length_le (by rw [hPl]; exact Nat.le_refl _), drawG] at hE
          injection hE with hE
          subst hE
          have k0 := hp_cell (j := 0) HRr.out rfl
          have k1 := hp_cell (j := 1) HRr.out rfl
          have k2 := hp_cell (j := 2) HRr.out rfl
          have l0 := hp_cell (j := 0) HQr.out rfl
          have l1 := hp_cell (j := 1) HQr.out rfl
          have l2 := hp_cell (j := 2) HQr.out rfl
          go_wp2_with fail
          refine (same_ref (W : Nat) (H : Nat) A21 n4 c21 ck (W : Nat) (H : Nat) A' n4 cap' ck (by unfold In64; omega) (by unfold In64; omega) (by unfold In64; omega) (by unfold In64; omega) h4n h4c hn' hc' _ HXr.out HOr.out.pix).mono ?_
          rintro e w30 ⟨rfl, hB30⟩
          rw [same_self ck HMB.out]
          have HFIN := Lib.hid (HBr.out.trans (hB30.mono HBr.out.size))
          clear hB30 k0 k1 k2 l0 l1 l2
          go_wp2_with fail
          go_ret
          exact ⟨rfl, HFIN.out⟩
end Go.Proofs.Ytkjlejkcedemlaa
