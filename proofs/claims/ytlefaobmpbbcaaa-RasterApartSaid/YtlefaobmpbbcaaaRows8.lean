/- RasterRows: the walk. -/
import Derived.Test.YtlefaobmpbbcaaaAw8
import Derived.Test.YtlefaobmpbbcaaaUni
import Derived.Deep.RegionHeld3
namespace Go.Proofs.Ytlefaobmpbbcaaa
set_option linter.unusedVariables false
open Go.ChangeShapes Go.WideShapes Go.ChangeAt Go.RowKit

theorem setCur_size (cur : Array Value) (k : Nat) (cs : List Value) (h : 4 * k + cs.length ≤ cur.size) : (setCur cur k cs).size = cur.size := by
  simp [setCur]; omega
theorem setCur_in (cur : Array Value) (k : Nat) (cs : List Value) (h : 4 * k + cs.length ≤ cur.size) (j : Nat) (hj : j < cs.length) : (setCur cur k cs)[4 * k + j]? = cs[j]? := by
  have e1 : (cur.toList.take (4 * k)).length = 4 * k := by rw [List.length_take]; simp; omega
  unfold setCur
  rw [List.getElem?_toArray, List.append_assoc, List.getElem?_append_right (by omega), e1, List.getElem?_append_left (by omega)]
  congr 1
  omega
theorem setCur_out (cur : Array Value) (k : Nat) (cs : List Value) (h : 4 * k + cs.length ≤ cur.size) (j : Nat) (hj : j < 4 * k ∨ 4 * k + cs.length ≤ j) : (setCur cur k cs)[j]? = cur[j]? := by
  have e1 : (cur.toList.take (4 * k)).length = 4 * k := by rw [List.length_take]; simp; omega
  unfold setCur
  rw [List.getElem?_toArray, List.append_assoc]
  rcases hj with hj | hj
  · rw [List.getElem?_append_left (by omega), List.getElem?_take, if_pos (by omega)]
    simp
  · rw [List.getElem?_append_right (by omega), e1, List.getElem?_append_right (by omega), List.getElem?_drop]
    simp
    congr 1
    omega
/-- What RasterRows sets: the j-th sample. -/
def cR (j : Nat) : Nat := if j % 4 = 0 then j / 4 % 65536 else if j % 4 = 1 then 1 else if j % 4 = 2 then j / 4 / 256 % 65536 else 9
theorem cR_lt (i : Nat) : cR i < 65536 := by unfold cR; (repeat' split) <;> omega
theorem cR0 (k : Nat) (h : k < 65536) : cR (4 * k) = k := by unfold cR; rw [if_pos (by omega)]; omega
theorem cR3 (k : Nat) : cR (4 * k + 3) = 9 := by unfold cR; rw [if_neg (by omega), if_neg (by omega), if_neg (by omega)]
theorem cR_pix (k : Nat) (h : k < 65536) (j : Nat) (hj : j < 4) : (pix4 k 1 (k / 256) 9)[j]? = some (.int .u16 (cR (4 * k + j) : Nat)) := by
  obtain rfl | rfl | rfl | rfl : j = 0 ∨ j = 1 ∨ j = 2 ∨ j = 3 := by omega
  · have : cR (4 * k + 0) = k := cR0 k h
    rw [this]; rfl
  · have : cR (4 * k + 1) = 1 := by unfold cR; rw [if_neg (by omega), if_pos (by omega)]
    rw [this]; rfl
  · have : cR (4 * k + 2) = k / 256 := by unfold cR; rw [if_neg (by omega), if_neg (by omega), if_pos (by omega)]; omega
    rw [this]; rfl
  · rw [cR3]; rfl
theorem cnt_cR (N : Nat) (h : N ≤ 16384) : cnt (kls cR N) = N := by
  rw [cnt_uni cR_lt, uni_nodup, ll, List.length_map, List.length_range]
  unfold ll List.Nodup
  rw [List.pairwise_iff_getElem]
  intro i j hi hj hij e
  simp at hi hj
  simp only [List.getElem_map, List.getElem_range, p4, Prod.mk.injEq] at e
  have h1 := e.1
  rw [cR0 i (by omega), cR0 j (by omega)] at h1
  omega
/-- The first i of the places that RasterRows sets are set. -/
def Done (n t i : Nat) (cur : Array Value) : Prop := ∀ s, s < i → ∀ j, j < 4 → cur[4 * ((s + t) % n) + j]? = some (.int .u16 (cR (4 * ((s + t) % n) + j) : Nat))
theorem Done.zero (n t : Nat) (cur : Array Value) : Done n t 0 cur := fun s hs => absurd hs (by omega)
theorem Done.step {n t i : Nat} {cur : Array Value} (hD : Done n t i cur) {k q : Nat} (hk : k = (i + t) % n) (hq : q = k / 256) (hn : n ≤ 65536) (hk4 : k < n) (hs : 4 * n ≤ cur.size) : Done n t (i + 1) (setCur cur k (pix4 k 1 q 9)) := by
  subst hq
  intro s hs' j hj
  have hl : (pix4 k 1 (k / 256) 9).length = 4 := rfl
  by_cases e : (s + t) % n = k
  · rw [e, setCur_in _ _ _ (by omega) j (by omega)]
    exact cR_pix k (by omega) j hj
  · have hsi : s < i := by
      by_cases h : s = i
      · subst h; exact absurd hk.symm e
      · omega
    rw [setCur_out _ _ _ (by omega) _ (by omega)]
    exact hD s hsi j hj
theorem Done.all {n t : Nat} {cur : Array Value} (h : Done n t n cur) (hn : 1 ≤ n) (j : Nat) (hj : j < 4 * n) : cur[j]? = some (.int .u16 (cR j : Nat)) := by
  have ht : t % n < n := Nat.mod_lt _ (by omega)
  have h1 := h ((j / 4 + n - t % n) % n) (Nat.mod_lt _ (by omega)) (j % 4) (Nat.mod_lt _ (by omega))
  have e : ((j / 4 + n - t % n) % n + t) % n = j / 4 := by
    rw [Nat.add_mod, Nat.mod_mod, ← Nat.add_mod]
    have e2 : (j / 4 + n - t % n + t) % n = (j / 4 + n - t % n + t % n) % n := by rw [Nat.add_mod, Nat.add_mod (j / 4 + n - t % n) (t % n), Nat.mod_mod]
    rw [e2, show j / 4 + n - t % n + t % n = j / 4 + n by omega, Nat.add_mod_right, Nat.mod_eq_of_lt (by omega)]
  rw [e, show 4 * (j / 4) + j % 4 = j by omega] at h1
  exact h1

theorem size40 (a b : Nat) (a0 : 1 ≤ a) (a1 : a ≤ 40) (b0 : 1 ≤ b) (b1 : b ≤ 40) : sizeE a b = 0 := by
  obtain ⟨m0, m1⟩ := mul_bd a b 40 40 (by omega) (by omega) (by omega) (by omega)
  unfold sizeE
  rw [if_neg (by omega), if_neg]
  intro h
  rcases h with h | h | h
  · omega
  · omega
  · have : (a : Int) ≤ 16384 / b := by rw [Int.le_ediv_iff_mul_le (by omega)]; omega
    omega
theorem div_bd (k a : Nat) (h : k ≤ 65535) (ha : 1 ≤ a) : -9223372036854775808 ≤ (k : Int) / (a : Int) ∧ (k : Int) / (a : Int) ≤ 9223372036854775807 := by
  have h1 : 0 ≤ (k : Int) / (a : Int) := Int.ediv_nonneg (by omega) (by omega)
  have h2 : (k : Int) / (a : Int) ≤ k := Int.ediv_le_self _ (by omega)
  omega
theorem inB_at {a b n k : Nat} (hn : n = a * b) (hm : mayB a b (4 * n) = true) (hk : k < n) (ha : 1 ≤ a) : inB a b (4 * n) ((k : Int) % (a : Int)) ((k : Int) / (a : Int)) = true := by
  have h1 : 0 ≤ (k : Int) % (a : Int) := Int.emod_nonneg _ (by omega)
  have h2 : (k : Int) % (a : Int) < a := Int.emod_lt_of_pos _ (by omega)
  have h3 : 0 ≤ (k : Int) / (a : Int) := Int.ediv_nonneg (by omega) (by omega)
  have h4 : (k : Int) / (a : Int) < b := by
    rw [Int.ediv_lt_iff_lt_mul (by omega), ← Int.natCast_mul, Nat.mul_comm, ← hn]
    omega
  simp [inB, hm, h1, h2, h3, h4]
theorem four_new {W w5 : World} (hB : Below (W.alloc (.cells #[.int .u16 0, .int .u16 0, .int .u16 0, .int .u16 0] 41)).drew.heap.size (W.alloc (.cells #[.int .u16 0, .int .u16 0, .int .u16 0, .int .u16 0] 41)).drew w5) :
    w5.heap[W.heap.size]? = some (.cells #[.int .u16 0, .int .u16 0, .int .u16 0, .int .u16 0] 41 (0, 0)) := hp_below (show (W.alloc (.cells #[.int .u16 0, .int .u16 0, .int .u16 0, .int .u16 0] 41)).drew.heap[W.heap.size]? = some _ from hp_new0 W _) hB (by simp)
/-- The world in RasterRows's first loop. -/
def RL (w : World) (R g n t cap a b : Nat) (i : Nat) (wr : World) : Prop :=
  Below w.heap.size w wr ∧ wr.heap[R]? = some (.cells #[.int .i64 a, .int .i64 b, .slice (some ⟨g, 0, none⟩) (4 * n) cap] 25 (0, 0)) ∧ ∃ cur, wr.heap[g]? = some (.cells cur 38 (0, 0)) ∧ 4 * n ≤ cur.size ∧ Done n t i cur

set_option maxRecDepth 100000 in
set_option maxHeartbeats 4000000 in
theorem rows_walk (x y t : Nat) (x1 : x ≤ 255) (y1 : y ≤ 255) (t1 : t ≤ 65535) (w : World) :
    Calls Try.prog 5 #[.int .u8 x, .int .u8 y, .int .u16 t] w fun e w' => e = .returned (.bool true) ∧ Below w.heap.size w w' := by
  obtain ⟨a, hA⟩ : ∃ a : Nat, 1 + (x : Int) % 40 = (a : Int) := ⟨1 + x % 40, by omega⟩
  obtain ⟨b, hBb⟩ : ∃ b : Nat, 1 + (y : Int) % 40 = (b : Int) := ⟨1 + y % 40, by omega⟩
  have a0 : 1 ≤ a := by omega
  have a1 : a ≤ 40 := by omega
  have b0 : 1 ≤ b := by omega
  have b1 : b ≤ 40 := by omega
  obtain ⟨m0, m1⟩ := mul_bd a b 40 40 (by omega) (by omega) (by omega) (by omega)
  obtain ⟨n, hn⟩ : ∃ n : Nat, (a : Int) * (b : Int) = (n : Int) := ⟨a * b, by simp⟩
  have hnn : n = a * b := by rw [← Int.natCast_inj, Int.natCast_mul, hn]
  have hz := size40 a b a0 a1 b0 b1
  rw [hn] at m1
  have n0 : 1 ≤ n := by rw [hnn]; exact Nat.mul_pos a0 b0
  have HA := Lib.hid hA
  have HB := Lib.hid hBb
  have HN := Lib.hid hn
  have HNN := Lib.hid hnn
  clear hA hBb hn hnn m0
  go_enter Try.func5, Try.ntmps5
  go_wp2_with fail
  refine (awake8 _).mono ?_
  rintro e w1 ⟨rfl, hB1⟩
  go_wp2_with fail
  rw [HA.out, HB.out]
  refine (new_prog a b (by unfold In64; omega) (by unfold In64; omega) _).mono ?_
  rintro e w2 ⟨hB2, ⟨_, v, rfl, hown⟩ | ⟨h, _⟩⟩
  rotate_left
  · exact absurd hz h
  have h4 : (4 * (a : Int) * (b : Int)).toNat = 4 * n := by have := HN.out; rw [Int.mul_assoc]; omega
  rw [h4] at hown
  obtain ⟨hlen, hf⟩ := hown
  rcases hf with ⟨rfl, h0⟩ | ⟨g, cap, cur, rfl, hgb, hg, hnc, hcm, hcs, ht⟩
  · exact absurd h0 (by omega)
  have hgl : g < w2.heap.size := (Array.getElem?_eq_some_iff.1 hg).1
  have hA2 := hB1.trans (hB2.mono hB1.size)
  have hS1 := hB1.size
  have hmay : mayB a b (4 * n) = true := by simp [mayB, hz]; have := HN.out; rw [Int.mul_assoc]; omega
  have hb2 := hp_new0 w2 (.cells #[.int .i64 a, .int .i64 b, .slice (some ⟨g, 0, none⟩) (4 * n) cap] 25)
  have hA2' := hA2.alloc hA2.size (.cells #[.int .i64 a, .int .i64 b, .slice (some ⟨g, 0, none⟩) (4 * n) cap] 25)
  have hg2 := hp_alloc (.cells #[.int .i64 a, .int .i64 b, .slice (some ⟨g, 0, none⟩) (4 * n) cap] 25) hg
  have hS2 : (w2.alloc (.cells #[.int .i64 a, .int .i64 b, .slice (some ⟨g, 0, none⟩) (4 * n) cap] 25)).heap.size = w2.heap.size + 1 := World.size_alloc _ _
  have hsz := hS2
  clear hB1 hB2 hlen ht h4
  go_wp2_with fail
  refine (may_prog a b _ (4 * n) cap (by unfold In64; omega) (by unfold In64; omega) hnc hcm _).mono ?_
  rintro e w3 ⟨rfl, hB3⟩
  rw [hmay]
  rw [hS2] at hB3
  have hS3 := hB3.size
  rw [hS2] at hS3
  have hRL : RL w w2.heap.size g n t cap a b 0 w3 := ⟨hA2'.trans (hB3.mono (by omega)), hp_below hb2 hB3 (by omega), cur, hp_below hg2 hB3 (by omega), by omega, Done.zero _ _ _⟩
  have HM := Lib.hid hmay
  have HZ := Lib.hid hz
  have hgw : w.heap.size ≤ g := by omega
  have hgR : g ≠ w2.heap.size := by omega
  have hRw : w.heap.size ≤ w2.heap.size := by omega
  clear hmay hz hA2' hg2 hS2 hsz hB3 hA2 hb2 hg hcs hS3
  generalize w2.heap.size = R at *
  have zn : ((n : Int) == 0) = false := by rw [beq_eq_false_iff_ne]; omega
  have za : ((a : Int) == 0) = false := by rw [beq_eq_false_iff_ne]; omega
  have hw : wrap64 ((a : Int) * (b : Int)) = n := by rw [HN.out]; exact IntWalk.wrap64_in _ (by omega)
  go_wp2_with fail
  rw [hw]
  clear hw
  go_loopw [12] (fun i wr => ∃ k : Nat, k ≤ n ∧ i = .int .i64 k ∧ RL w R g n t cap a b k wr) (fun i _ => n - (intOf i).toNat)
  case atStart => exact ⟨0, by omega, rfl, hRL⟩
  case round =>
    clear hRL
    obtain ⟨i, hi, rfl, hB, hbx, cur, hg, hsz, hD⟩ := hrel
    by_cases hlt : i < n
    · obtain ⟨k, hk⟩ : ∃ k : Nat, k = (i + t) % n := ⟨_, rfl⟩
      have hkI : ((i : Int) + (t : Int)) % (n : Int) = (k : Int) := by rw [hk]; simp
      have hkn : k < n := by rw [hk]; exact Nat.mod_lt _ (by omega)
      have HK := Lib.hid hk
      have HKI := Lib.hid hkI
      clear hk hkI
      have k0 := hp_cell (j := 0) hbx rfl
      have k1 := hp_cell (j := 1) hbx rfl
      have k2 := hp_cell (j := 2) hbx rfl
      have na : ¬a = 0 := by omega
      have hRl : R < wr.heap.size := (Array.getElem?_eq_some_iff.1 hbx).1
      go_wp2_with fail
      rw [HKI.out]
      have hka : IntKind.i64.wrap ((k : Int) / (a : Int)) = (k : Int) / (a : Int) := IntWalk.i64_in _ (div_bd k a (by omega) (by omega))
      have hin := Lib.hid (inB_at (b := b) HNN.out HM.out hkn a0)
      have hpl : Hid (((k : Int) / (a : Int)) * (a : Int) + (k : Int) % (a : Int) = (k : Int)) := Int.ediv_mul_add_emod _ _
      have hgd : wr.drew.heap[g]? = some (.cells cur 38 (0, 0)) := hg
      have hbd : wr.drew.heap[R]? = some (.cells #[.int .i64 a, .int .i64 b, .slice (some ⟨g, 0, none⟩) (4 * n) cap] 25 (0, 0)) := hbx
      have HBd := Lib.hid ((hB.drew : Below w.heap.size w wr.drew))
      obtain ⟨q, hq⟩ : ∃ q : Nat, q = k / 256 := ⟨_, rfl⟩
      have hqI : (k : Int) / 256 = (q : Int) := by omega
      have HQ := Lib.hid hq
      have hq16 : q < 65536 := by omega
      clear hq
      have hkm : (k : Int).tmod (a : Int) = (k : Int) % (a : Int) := Int.tmod_eq_emod_of_nonneg (by omega)
      have hk16 : IntKind.u16.wrap (k : Int) = (k : Int) := IntWalk.u16_in _ (by omega)
      have hqw : IntKind.u16.wrap (q : Int) = (q : Int) := IntWalk.u16_in _ (by omega)
      go_region_with (go_at_call 16; refine (set_prog a b g (4 * n) cap _ _ k 1 q 9 (by unfold In64; omega) (by unfold In64; omega) hnc hcm _ cur hgd hsz k hin.out hpl.out (by omega)).mono ?_; rintro e w5 ⟨rfl, hgr, hg5⟩)
      have hB5 := HBd.out.grown hgr HBd.out.size (fun j e => by cases e; exact hgw)
      have hb5 := (hgr.block R (by exact hRl) (fun e => by cases e; exact hgR rfl)).trans hbd
      have hD5 := hD.step HK.out HQ.out (by omega) hkn hsz
      have hs5 : 4 * n ≤ (setCur cur k (pix4 k 1 q 9)).size := by rw [setCur_size _ _ _ (by simp [pix4]; omega)]; exact hsz
      have HR := Lib.hid (show RL w R g n t cap a b (i + 1) w5 from ⟨hB5, hb5, _, hg5, hs5, hD5⟩)
      clear hB5 hb5 hD5 hs5 hkm hk16 hqw hgr hg5 hgd hbd HBd hka hin hpl
      go_wp2_with fail
      go_roundw
      case rel => exact ⟨i + 1, by omega, by go_num, HR.out⟩
      case measure => simp [intOf]; omega
    · obtain rfl : i = n := by omega
      have hgl2 : g < wr.heap.size := (Array.getElem?_eq_some_iff.1 hg).1
      have hRl : R < wr.heap.size := (Array.getElem?_eq_some_iff.1 hbx).1
      have hP : Pix wr (some ⟨g, 0, none⟩) (4 * i) cR := fun _ => ⟨g, 0, rfl, hgl2, fun j hj => by rw [Nat.zero_add]; exact hp_cell hg (hD.all n0 j hj)⟩
      clear hsz hD hg
      go_wp2_with fail
      rename World => wo
      go_loopw [14] (fun v wr => ∃ k : Nat, k ≤ i ∧ v = .int .i64 k ∧ Below wo.heap.size wo wr) (fun v _ => i - (intOf v).toNat)
      case atStart => exact ⟨0, by omega, rfl, Below.refl _ _⟩
      case round =>
        obtain ⟨k, hk, rfl, hB2⟩ := hrel
        have hbx2 := hp_below hbx hB2 hRl
        have hP2 := hP.below hB2
        have k0 := hp_cell (j := 0) hbx2 rfl
        have k1 := hp_cell (j := 1) hbx2 rfl
        have k2 := hp_cell (j := 2) hbx2 rfl
        have na : ¬a = 0 := by omega
        have nb : ¬b = 0 := by omega
        have hRl2 : R < wr.heap.size := Nat.lt_of_lt_of_le hRl hB2.size
        by_cases hkn : k < i
        · have hin := Lib.hid (inB_at (b := b) HNN.out HM.out hkn a0)
          have hka : IntKind.i64.wrap ((k : Int) / (a : Int)) = (k : Int) / (a : Int) := IntWalk.i64_in _ (div_bd k a (by omega) (by omega))
          have hkm : (k : Int).tmod (a : Int) = (k : Int) % (a : Int) := Int.tmod_eq_emod_of_nonneg (by omega)
          have hgv : getV a b (4 * i) cR ((k : Int) % (a : Int)) ((k : Int) / (a : Int)) = .agg #[.int .u16 (k : Nat), .int .u16 (cR (4 * k + 1) : Nat), .int .u16 (cR (4 * k + 2) : Nat), .int .u16 9] := by
            unfold getV
            rw [if_pos hin.out, Int.ediv_mul_add_emod]
            unfold px
            rw [Int.toNat_natCast, cR0 k (by omega), cR3]
            rfl
          have HV := Lib.hid hgv
          have hk16 : IntKind.u16.wrap (k : Int) = (k : Int) := IntWalk.u16_in _ (by omega)
          have hne : ¬wr.heap.size = R := by have := hB2.size; omega
          have hne2 : ¬wr.heap.size = g := by have := hB2.size; omega
          clear hgv
          go_wp2_with fail
          go_region_with (go_at_call 17; refine (get_prog a b _ (4 * i) cap cR _ _ (by unfold In64; omega) (by unfold In64; omega) hnc hcm _ (by first | exact hP2.below ((Below.refl _ _).drew) | exact hP2.below (((Below.refl _ _).alloc (Nat.le_refl _) _).drew))).mono ?_; rintro e w5 ⟨hB5, rfl⟩; rw [hin.out, HV.out]; try (have q1 := four_new hB5; have z0 := hp_cell (j := 0) q1 rfl; have z1 := hp_cell (j := 1) q1 rfl; have z2 := hp_cell (j := 2) q1 rfl; have z3 := hp_cell (j := 3) q1 rfl; have zf : ∀ j, w5.frozen? ⟨wr.heap.size, j, none⟩ = false := fun j => by simp [World.frozen?, q1]))
          all_goals
            have hC5 : Below wr.heap.size wr w5 := by
              first
              | exact ((Below.refl _ _).drew).trans hB5
              | exact (((Below.refl _ wr).alloc (Nat.le_refl _) _).drew).trans (hB5.mono (by simp))
            have hbx5 := hp_below hbx2 hC5 hRl2
            have m2 := hp_cell (j := 2) hbx5 rfl
            obtain ⟨_, _, he, _, hcl⟩ := hP2.below hC5 (by omega)
            cases he
            have d0 : w5.cell? ⟨g, 4 * k, none⟩ = some (.int .u16 (k : Nat)) := by have := hcl (4 * k) (by omega); rwa [Nat.zero_add, cR0 k (by omega)] at this
            have d3 : w5.cell? ⟨g, 4 * k + 3, none⟩ = some (.int .u16 9) := by have := hcl (4 * k + 3) (by omega); rw [Nat.zero_add, cR3] at this; exact this
            have hs5 := hC5.size
            have hne5 : ¬w5.heap.size = R := by omega
            have hne6 : ¬w5.heap.size = g := by omega
            have m2' := hp_cell (j := 2) (hp_alloc (.cells #[.int .u16 (k : Nat), .int .u16 (cR (4 * k + 1) : Nat), .int .u16 (cR (4 * k + 2) : Nat), .int .u16 9] 41) hbx5) rfl
            have d0' := (World.cell?_alloc_lt w5 (.cells #[.int .u16 (k : Nat), .int .u16 (cR (4 * k + 1) : Nat), .int .u16 (cR (4 * k + 2) : Nat), .int .u16 9] 41) ⟨g, 4 * k, none⟩ (by simp; omega)).trans d0
            have d3' := (World.cell?_alloc_lt w5 (.cells #[.int .u16 (k : Nat), .int .u16 (cR (4 * k + 1) : Nat), .int .u16 (cR (4 * k + 2) : Nat), .int .u16 9] 41) ⟨g, 4 * k + 3, none⟩ (by simp; omega)).trans d3
            have HA5 := Lib.hid (hB2.trans (hC5.mono hB2.size))
            clear hC5 hB5 hcl hbx5 k0 k1 k2 hbx2 hP2 hka hkm
            go_wp2
            go_roundw
            case rel =>
              refine ⟨k + 1, by omega, by go_num, ?_⟩
              have HA := HA5.out
              first
              | exact HA.alloc HA.size _
              | exact (((HA.setCell (p := ⟨wr.heap.size, 0, none⟩) hB2.size _).setCell (p := ⟨wr.heap.size, 1, none⟩) hB2.size _).setCell (p := ⟨wr.heap.size, 2, none⟩) hB2.size _).setCell (p := ⟨wr.heap.size, 3, none⟩) hB2.size _
            case measure => simp [intOf]; omega
        · obtain rfl : k = i := by omega
          have hc4 : 4 * (k : Int) ≤ (cap : Int) := by omega
          have HA2 := Lib.hid (hB.trans (hB2.mono hB.size))
          have hgl3 : g < wr.heap.size := Nat.lt_of_lt_of_le hgl2 hB2.size
          have o1 : inB a b (4 * k) a 0 = false := by simp [inB]
          have o2 : inB a b (4 * k) 0 (-1) = false := by simp [inB]
          have o3 : inB a b (4 * k) 0 b = false := by simp [inB]
          have v1 : getV a b (4 * k) cR a 0 = zero4 := by unfold getV; rw [if_neg (by simp [o1])]
          have v2 : getV a b (4 * k) cR 0 (-1) = zero4 := by unfold getV; rw [if_neg (by simp [o2])]
          have n1 : colN cR k k = (k : Int) := by unfold colN; rw [cnt_cR k (by omega)]; rw [if_neg (by omega)]
          have n2 : colB cR k k = true := by unfold colB; rw [cnt_cR k (by omega)]; simp
          have O1 := Lib.hid o1
          have O2 := Lib.hid o2
          have O3 := Lib.hid o3
          have V1 := Lib.hid v1
          have V2 := Lib.hid v2
          have N1 := Lib.hid n1
          have N2 := Lib.hid n2
          clear o1 o2 o3 v1 v2 n1 n2 hB hB2 hbx hP hgl2 hRl
          go_wp2_with fail
          refine (get_prog a b _ (4 * k) cap cR _ _ (by unfold In64; omega) (by unfold In64; omega) hnc hcm _ hP2).mono ?_
          rintro e w5 ⟨hB5, rfl⟩
          rw [O1.out, V1.out]
          have hb5 := hp_alloc (.cells #[.int .u16 0, .int .u16 0, .int .u16 0, .int .u16 0] 41) (hp_below hbx2 hB5 hRl2)
          have hP5 := (hP2.below hB5).below ((Below.refl _ _).alloc (Nat.le_refl _) (.cells #[.int .u16 0, .int .u16 0, .int .u16 0, .int .u16 0] 41))
          have hA5 := HA2.out.trans (hB5.mono HA2.out.size)
          have HA5 := Lib.hid (hA5.alloc hA5.size (.cells #[.int .u16 0, .int .u16 0, .int .u16 0, .int .u16 0] 41))
          have s5 := hB5.size
          clear k0 k1 k2 hbx2 hP2 hB5 hA5
          have k0 := hp_cell (j := 0) hb5 rfl
          have k1 := hp_cell (j := 1) hb5 rfl
          have k2 := hp_cell (j := 2) hb5 rfl
          unfold zero4
          go_wp2_with fail
          refine (get_prog a b _ (4 * k) cap cR _ _ (by unfold In64; omega) (by unfold In64; omega) hnc hcm _ hP5).mono ?_
          rintro e w6 ⟨hB6, rfl⟩
          rw [O2.out, V2.out]
          rw [World.size_alloc] at hB6
          have hb6 := hp_alloc (.cells #[.int .u16 0, .int .u16 0, .int .u16 0, .int .u16 0] 41) (hp_below hb5 hB6 (by omega))
          have hP6 := (hP5.below (by rw [World.size_alloc]; exact hB6)).below ((Below.refl _ _).alloc (Nat.le_refl _) (.cells #[.int .u16 0, .int .u16 0, .int .u16 0, .int .u16 0] 41))
          have hA6 := HA5.out.trans (hB6.mono (by have := HA5.out.size; rw [World.size_alloc] at this; exact this))
          have HA6 := Lib.hid (hA6.alloc hA6.size (.cells #[.int .u16 0, .int .u16 0, .int .u16 0, .int .u16 0] 41))
          have s6 := hB6.size
          clear k0 k1 k2 hb5 hP5 hB6 hA6
          have k0 := hp_cell (j := 0) hb6 rfl
          have k1 := hp_cell (j := 1) hb6 rfl
          have k2 := hp_cell (j := 2) hb6 rfl
          unfold zero4
          go_wp2_with fail
          obtain ⟨_, _, he, hbk, hcl⟩ := hP6 (by omega)
          cases he
          refine (col_may a b g 0 cap cR cR_lt k k (by unfold In64; omega) (by unfold In64; omega) HM.out n0 (by omega) hnc hcm _ hbk hcl).mono ?_
          rintro e w7 ⟨rfl, hB7⟩
          rw [N1.out, N2.out]
          rw [World.size_alloc] at hB7
          have hb7 := hp_below hb6 hB7 (by rw [World.size_alloc] at s6; omega)
          have HA7 := Lib.hid (HA6.out.trans (hB7.mono (by have := HA6.out.size; rw [World.size_alloc] at this; exact this)))
          clear k0 k1 k2 hb6 hP6 hB7 hcl hbk
          have k0 := hp_cell (j := 0) hb7 rfl
          have k1 := hp_cell (j := 1) hb7 rfl
          have k2 := hp_cell (j := 2) hb7 rfl
          go_wp2_with fail
          refine (set_no a b _ (4 * k) cap 0 b 0 0 0 0 (by unfold In64; omega) (by unfold In64; omega) hnc hcm _ O3.out).mono ?_
          rintro e w8 ⟨rfl, hB8⟩
          go_wp2
          go_ret
          exact ⟨rfl, HA7.out.trans (hB8.mono HA7.out.size)⟩
end Go.Proofs.Ytlefaobmpbbcaaa
