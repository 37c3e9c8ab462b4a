/- LzwClears: the walk. -/
import Derived.Test.YtioghgnngdcicaaLzWl
import Derived.Test.YtioghgnngdcicaaLzBp
import Derived.Test.YtioghgnngdcicaaLzRm
import Derived.Test.YtioghgnngdcicaaLzBk
import Derived.Test.YtioghgnngdcicaaOpL
namespace Go.Proofs.Ytioghgnngdcicaa
set_option linter.unusedVariables false
open Go.ChangeShapes Go.WideShapes Go.ChangeAt Go.RowKit

/-- The writer, and what is wanted. -/
structure ClR (w0 : World) (g : Nat) (bits : List Nat) (ob : Option Nat) (v10 : Value) (want : List Nat) (w : World) : Prop where
  pk : PkR w0 g bits ob w
  own : w.ownsRow w0.heap.size 5 1 v10 want.length (cellsB want)
  ap : ∀ k, v10.ownBlock = some k → k ≠ g ∧ ob ≠ some k
theorem ClR.below {w0 : World} {g : Nat} {bits : List Nat} {ob : Option Nat} {v10 : Value} {want : List Nat} {w w' : World} (h : ClR w0 g bits ob v10 want w) (hb : Below w.heap.size w w') : ClR w0 g bits ob v10 want w' :=
  ⟨h.pk.below hb, own_chg h.own (Chg.of_below (S := []) hb) (fun _ _ => by simp), h.ap⟩
theorem clr_put {w0 : World} {g : Nat} {bits : List Nat} {ob : Option Nat} {v10 : Value} {want : List Nat} {w : World} (h : ClR w0 g bits ob v10 want w) (hl : bits.length ≤ 500000) (x : Int) (hx : In64 x) (n : Nat) (hn : n ≤ 60) :
    Calls Try.prog 21 #[.pointer (some ⟨g, 0, none⟩), .int .i64 x, .int .i64 (n : Nat)] w fun e w' => e = .returned (.tuple #[]) ∧ Chg (Near g ob) w w' ∧ ∃ ob', Next ob ob' w ∧ ClR w0 g (bits ++ numB false x n) ob' v10 want w' := by
  obtain ⟨⟨h1, h2, h3, h4⟩, h5, h6⟩ := h
  refine (put_pk g bits false ob hl x hx n hn w h1).mono ?_
  rintro e w' ⟨rfl, hC, ob', hP, hN⟩
  refine ⟨rfl, hC, ob', hN, ⟨hP, h2.trans (hC.below h2.size fun k hk => ?_), h3, fun k hk => ?_⟩, own_chg h5 hC (fun k hk hm => ?_), fun k hk => ⟨(h6 k hk).1, fun e => ?_⟩⟩
  · rcases List.mem_cons.1 hk with rfl | hk
    · exact h3
    · exact h4 k (by simpa using hk)
  · rcases hN with rfl | ⟨q, rfl, hq⟩
    · exact h4 k hk
    · injection hk with hk
      subst hk
      exact Nat.le_trans h2.size hq
  · rcases List.mem_cons.1 hm with rfl | hm
    · exact (h6 _ hk).1 rfl
    · exact (h6 k hk).2 (by simpa using hm)
  · rcases hN with rfl | ⟨q, rfl, hq⟩
    · exact (h6 k hk).2 e
    · injection e with e
      have := (h5.lt k hk).2
      omega
theorem clr_app {w0 : World} {g : Nat} {bits : List Nat} {ob : Option Nat} {v10 : Value} {want : List Nat} {w : World} (h : ClR w0 g bits ob v10 want w) (x : Nat) (hl : want.length ≤ 100000) :
    ∃ v' W1, (Builtin.append_ #[22, 22] 22 #[v10, .slice (some ⟨w.heap.size, 0, none⟩) 1 1]).run Try.prog (w.alloc (.cells #[.int .u8 (x : Nat)] 5)) = .ok v' W1 ∧ ClR w0 g bits ob v' (want ++ [x]) W1 := by
  obtain ⟨⟨h1, h2, h3, h4⟩, h5, h6⟩ := h
  obtain ⟨i0, hi, hz0, hz1, hz2⟩ := info_parts info8
  have hs := h2.size
  have hgl := h1.g_lt
  obtain ⟨v', W1, hr, ho, hg, hat⟩ := run_app (P := Try.prog) (w := w.alloc (.cells #[.int .u8 (x : Nat)] 5)) w0.heap.size 22 22 5 i0 (.int .u8 0) 1 1 Try.underlying22 hi hz0 hz1 hz2 rfl (by omega) v10 want.length (cellsB want) (h5.alloc _)
    (some ⟨w.heap.size, 0, none⟩) 1 1 [.int .u8 (x : Nat)] (by simp) rfl (fun _ => ⟨w.heap.size, 0, rfl, fun j u hj => by
      match j, hj with
      | 0, hj => simp at hj; subst hj; exact hp_cell (j := 0) (hp_new0 w _) rfl
      | j + 1, hj => simp at hj⟩) (by intro u hu; simp at hu; subst hu; rfl) (by unfold maxLen; omega) (by omega) (by simp; omega)
  rw [← cellsB_snoc] at ho
  have hC : Chg v10.ownBlock.toList w W1 := ((Chg.refl v10.ownBlock.toList w).alloc (.cells #[.int .u8 (x : Nat)] 5)).trans (Chg.grown hg (fun r hr => by rw [hr]; simp))
  refine ⟨v', W1, hr, ⟨h1.chg hC (fun hm => (h6 g (by simpa using hm)).1 rfl) (fun k hk hm => (h6 k (by simpa using hm)).2 hk), h2.trans (hC.below hs fun k hk => (h5.lt k (by simpa using hk)).1), h3, h4⟩, own_len (by simp) ho, fun k hk => ?_⟩
  rcases hat with e | e
  · exact h6 k (e.symm.trans hk)
  · rw [hk] at e
    injection e with e
    have he : k = w.heap.size + 1 := by simpa using e
    refine ⟨by omega, fun hob => ?_⟩
    have := h1.ob_lt hob
    omega
theorem own_emptyI (w : World) : (w.alloc (.cells #[] 3)).ownsRow w.heap.size 3 1 (.slice (some ⟨w.heap.size, 0, none⟩) 0 0) 0 [] :=
  ⟨rfl, .inr ⟨w.heap.size, 0, #[], rfl, Nat.le_refl _, hp_new0 w _, Nat.le_refl _, by simp [maxLen], rfl, rfl⟩⟩
theorem cellsI_one (l : List Nat) : ∀ u ∈ cellsI l, u.oneCell' = true := by
  intro u hu
  obtain ⟨j, _, rfl⟩ := List.mem_map.1 hu
  rfl
/-- The bits copied. -/
theorem copy_bits {W : World} {bits : List Nat} {vo : Value} (h : W.ownsRow 0 3 1 vo bits.length (cellsI bits)) (hl : bits.length ≤ 500000) :
    ∃ v2 W2, (Builtin.append_ #[31, 31] 31 #[.slice (some ⟨W.heap.size, 0, none⟩) 0 0, vo]).run Try.prog (W.alloc (.cells #[] 3)) = .ok v2 W2 ∧ W2.ownsRow W.heap.size 3 1 v2 bits.length (cellsI bits) ∧ Below W.heap.size W W2 := by
  obtain ⟨i0, hi, hz0, hz1, hz2⟩ := info_parts info_int
  have hB := (Below.refl W.heap.size W).alloc (Nat.le_refl _) (.cells #[] 3)
  obtain ⟨-, Au, cu, rfl, hq1, hq2, hrow⟩ := Sl.of_own h
  have hz : Au = none → cu = 0 := fun hA => by
    rcases h.2 with ⟨he, _⟩ | ⟨g, cap, cur, he, _⟩
    · injection he
    · rw [hA] at he; cases he
  obtain ⟨v2, W2, hr, ho, hg, _⟩ := run_app (P := Try.prog) (w := W.alloc (.cells #[] 3)) W.heap.size 31 31 3 i0 (.int .i64 0) 1 8 Try.underlying31 hi hz0 hz1 hz2 rfl (by omega) _ 0 [] (own_emptyI W)
    Au bits.length cu (cellsI bits) hz (by rw [cellsI_len]; omega) (fun hn => by
      obtain ⟨bk, off, rfl, hlt, hc⟩ := hrow hn
      refine ⟨bk, off, rfl, fun j u hj => ?_⟩
      have hjl := (List.getElem?_eq_some_iff.1 hj).1
      rw [cellsI_len] at hjl
      rw [(hB.cell (p := ⟨bk, off + j, none⟩) hlt).trans (hc j (by omega)), hj]) (cellsI_one bits) (by unfold maxLen; omega) (by omega) (by simp)
  rw [List.nil_append] at ho
  exact ⟨v2, W2, hr, own_len (by omega) ho, bel_grown hB hg (fun r hr => by simp [Value.ownBlock] at hr; omega) (by simp)⟩
/-- The second writer, what is wanted, what was read. -/
structure ClU (w0 : World) (g : Nat) (bits : List Nat) (ob : Option Nat) (v10 : Value) (want : List Nat) (A : Option Addr) (n : Nat) (d : Nat → Nat) (w : World) : Prop where
  pk : Pk g bits false ob w
  own : w.ownsRow w0.heap.size 5 1 v10 want.length (cellsB want)
  byt : Byt w A n d
  ap1 : ∀ k, v10.ownBlock = some k → k ≠ g ∧ ob ≠ some k
  ap2 : ∀ a, A = some a → a.block ≠ g ∧ ob ≠ some a.block ∧ a.block < w.heap.size
  bel : Below w0.heap.size w0 w
  ge : w0.heap.size ≤ g ∧ ∀ k, ob = some k → w0.heap.size ≤ k
theorem clu_put {w0 : World} {g : Nat} {bits : List Nat} {ob : Option Nat} {v10 : Value} {want : List Nat} {A : Option Addr} {m : Nat} {d : Nat → Nat} {w : World} (h : ClU w0 g bits ob v10 want A m d w) (hl : bits.length ≤ 500000) (x : Int) (hx : In64 x) (n : Nat) (hn : n ≤ 60) :
    Calls Try.prog 21 #[.pointer (some ⟨g, 0, none⟩), .int .i64 x, .int .i64 (n : Nat)] w fun e w' => e = .returned (.tuple #[]) ∧ ∃ ob', ClU w0 g (bits ++ numB false x n) ob' v10 want A m d w' := by
  obtain ⟨h1, h2, h3, h4, h5, h6, h7, h8⟩ := h
  refine (put_pk g bits false ob hl x hx n hn w h1).mono ?_
  rintro e w' ⟨rfl, hC, ob', hP, hN⟩
  have hnear : ∀ k ∈ Near g ob, k = g ∨ ob = some k := fun k hk => by
    rcases List.mem_cons.1 hk with h | h
    · exact .inl h
    · exact .inr (by simpa using h)
  refine ⟨rfl, ob', hP, own_chg h2 hC (fun k hk hm => ?_), h3.chg hC (fun _ a ha hm => ?_), fun k hk => ⟨(h4 k hk).1, fun e => ?_⟩, fun a ha => ⟨(h5 a ha).1, fun e => ?_, Nat.lt_of_lt_of_le (h5 a ha).2.2 hC.size⟩, h6.trans (hC.below h6.size fun k hk => ?_), h7, fun k hk => ?_⟩
  · rcases hnear k hm with h | h
    · exact (h4 k hk).1 h
    · exact (h4 k hk).2 h
  · rcases hnear _ hm with h | h
    · exact (h5 a ha).1 h
    · exact (h5 a ha).2.1 h
  · rcases hN with rfl | ⟨q, rfl, hq⟩
    · exact (h4 k hk).2 e
    · injection e with e
      have := (h2.lt k hk).2
      omega
  · rcases hN with rfl | ⟨q, rfl, hq⟩
    · exact (h5 a ha).2.1 e
    · injection e with e
      have := (h5 a ha).2.2
      omega
  · rcases hnear k hk with rfl | h
    · exact h7
    · exact h8 k h
  · rcases hN with rfl | ⟨q, rfl, hq⟩
    · exact h8 k hk
    · injection hk with hk
      subst hk
      exact Nat.le_trans h6.size hq
/-- What the loops keep. -/
def ClS (w0 : World) (sz cl g : Nat) (v10 : Value) (want cs : List Nat) (ob : Option Nat) (w : World) : Prop := ClR w0 g (cb (sz + 1) cs) ob v10 want w ∧ PlOk cl 0 cs ∧ plOut cl cs = want
theorem ClS.clear {w0 : World} {sz cl g : Nat} {v10 : Value} {want cs : List Nat} {ob ob' : Option Nat} {w w' : World} (h : ClS w0 sz cl g v10 want cs ob w) (h1 : ClR w0 g (cb (sz + 1) cs ++ numB false ((cl : Nat) : Int) (sz + 1)) ob' v10 want w') : ClS w0 sz cl g v10 want (cs ++ [cl]) ob' w' ∧ plMany cl 0 (cs ++ [cl]) = 0 :=
  ⟨⟨by rw [cb_snoc]; exact h1, h.2.1.append (.inl ⟨rfl, trivial⟩), by rw [plOut_append, h.2.2]; simp [plOut]⟩, by rw [plMany_append, plMany, if_pos rfl, plMany]⟩
theorem ClS.val {w0 : World} {sz cl g : Nat} {v10 v11 : Value} {want cs : List Nat} {ob ob' : Option Nat} {w w' : World} {x j : Nat} (h : ClS w0 sz cl g v10 want cs ob w) (hx : x < cl) (hj : plMany cl 0 cs = j) (hj2 : j + 2 < cl) (h1 : ClR w0 g (cb (sz + 1) cs ++ numB false ((x : Nat) : Int) (sz + 1)) ob' v11 (want ++ [x]) w') : ClS w0 sz cl g v11 (want ++ [x]) (cs ++ [x]) ob' w' ∧ plMany cl 0 (cs ++ [x]) = j + 1 :=
  ⟨⟨by rw [cb_snoc]; exact h1, h.2.1.append (.inr ⟨hx, by rw [hj]; exact hj2, trivial⟩), by rw [plOut_append, h.2.2]; simp [plOut, hx]⟩, by rw [plMany_append, hj, plMany, if_neg (by omega), plMany]⟩
theorem ClS.want_len {w0 : World} {sz cl g : Nat} {v10 : Value} {want cs : List Nat} {ob : Option Nat} {w : World} (h : ClS w0 sz cl g v10 want cs ob w) : want.length ≤ cs.length := by
  rw [← h.2.2]
  exact List.length_filter_le _ _
set_option maxRecDepth 1000000 in
set_option maxHeartbeats 4000000 in
theorem clears_walk (L : Option Addr) (m capL : Nat) (f : Nat → (Option Addr × Nat × Nat) × (Nat → Nat)) (h1 : m ≤ capL) (h2 : capL ≤ maxLen) (size : Nat) (hsize : size < 256) (first : Bool) (w : World) (hL : RowsB w L m f) :
    Calls Try.prog 7 #[.slice L m capL, .int .u8 (size : Nat), .bool first] w fun e w' => e = .returned (.bool true) ∧ Below w.heap.size w w' := by
  go_enter Try.func7, Try.ntmps7
  go_wp2_with fail
  refine (awake7 _).mono ?_
  rintro e w1 ⟨rfl, hB1⟩
  have HL1 := Lib.hid (hL.below hB1)
  have HB1 := Lib.hid hB1
  clear hB1 hL
  obtain ⟨sz, hsz⟩ : ∃ sz, sz = 2 + size % 7 := ⟨_, rfl⟩
  have hs2 : 2 ≤ sz := by omega
  have hs8 : sz ≤ 8 := by omega
  have HE1 := Lib.hid (show (2 : Int) + (size : Int) % 7 = (sz : Int) by omega)
  obtain ⟨hc4, hc256⟩ := cl_bound hs2 hs8
  obtain ⟨cl, hcl⟩ : ∃ cl, cl = 2 ^ sz := ⟨_, rfl⟩
  rw [← hcl] at hc4 hc256
  have HWP := Lib.hid (show wrap64 ((2 : Int) ^ sz) = (cl : Int) by rw [wrap_pow sz (by omega), hcl])
  have HCL := Lib.hid hcl
  have hs9 : sz + 1 ≤ 60 := by omega
  have X1 := Lib.hid (in64_nat (k := cl) (by omega))
  have X2 := Lib.hid (in64_nat (k := cl + 1) (by omega))
  have X3 := Lib.hid (in64_nat (k := cl + 2) (by omega))
  have HQ := Lib.hid (show IntKind.u8.wrap ((cl : Int) - 1) = ((cl - 1 : Nat) : Int) by rw [IntKind.wrap_u8']; omega)
  have HM := Lib.hid (show ∀ x : Nat, x < 256 → bits BinOp.and IntKind.u8 (x : Int) ((cl - 1 : Nat) : Int) = ((x % cl : Nat) : Int) from fun x hx => by
    rw [u8_and_nat x (cl - 1) hx (by omega), HCL.out, Nat.and_two_pow_sub_one_eq_mod])
  clear hsz hcl
  by_cases c1 : 20 < m
  · have d1 : decide (20 < m) = true := by simp; omega
    have e1 := HE1.out
    go_wp2
    go_ret
    exact ⟨rfl, HB1.out⟩
  have d1 : decide (20 < m) = false := by simp; omega
  have H0 : Hid (ClS w1 sz cl w1.heap.size (.slice none 0 0) [] [] none (w1.alloc (.cells #[.slice none 0 0, .bool false] 46))) := Lib.hid ⟨⟨pkR_new w1 w1 (Below.refl _ _), World.ownsRow_nil _ _ _ _, fun k hk => by cases hk⟩, trivial, rfl⟩
  have e1 := HE1.out
  have hwp := HWP.out
  go_wp2_with fail
  clear e1 hwp
  rw [HWP.out]
  obtain ⟨g, hg⟩ : ∃ g, g = w1.heap.size := ⟨_, rfl⟩
  rw [← hg] at H0 ⊢
  clear hg
  go_loopw [10, 11] (fun s10 s11 wr => ∃ (i : Nat) (v : Value) (want cs : List Nat) (ob : Option Nat), v = s10 ∧ i ≤ m ∧ s11 = .int .i64 (i : Nat) ∧ ClS w1 sz cl g v want cs ob wr ∧ cs.length ≤ 31 * i ∧ (i = 0 → cs = [])) (fun _ s11 _ => m - (intOf s11).toNat)
  case atStart => exact ⟨0, _, [], [], none, rfl, by omega, rfl, H0.out, by simp, fun _ => rfl⟩
  case round =>
    clear H0
    obtain ⟨i, v, want, cs, ob, hv, him, rfl, hS, hcs, hz⟩ := hrel
    subst hv
    have HS := Lib.hid hS
    have HZ := Lib.hid hz
    clear hS hz
    by_cases hlt : i < m
    · have t1 : decide (i < m) = true := by simp; omega
      obtain ⟨k1, k2⟩ := HL1.out.below HS.out.1.pk.2.1
      obtain ⟨bk, off, rfl, hbk, hc⟩ := k1 (by omega)
      have hci := hc i hlt
      obtain ⟨k3, k4, k5, k6⟩ := k2 i hlt
      obtain ⟨r, hr⟩ : ∃ r, r = f i := ⟨_, rfl⟩
      rw [← hr] at hci k3 k4 k5 k6
      have HR := Lib.hid hr
      obtain ⟨⟨Ai, ni, ci⟩, d⟩ := r
      dsimp only at hci k3 k4 k5 k6
      have HBW := Lib.hid (HB1.out.trans (HS.out.1.pk.2.1.mono HB1.out.size))
      clear k1 k2 hc hr
      by_cases c2 : 30 < ni
      · have d2 : decide (30 < ni) = true := by simp; omega
        go_wp2
        go_ret
        exact ⟨rfl, HBW.out⟩
      have d2 : decide (30 < ni) = false := by simp; omega
      have hbl : (cb (sz + 1) cs).length ≤ 100000 := by
        rw [cb_len]
        have : cs.length * (sz + 1) ≤ 620 * 9 := Nat.mul_le_mul (by omega) (by omega)
        omega
      go_upto_region 14 with fail
      go_cut [50] (fun s50 wx => s50 = .bool (decide (0 < i) || first) ∧ Hid (wx = wr))
      case first =>
        by_cases hi0 : 0 < i
        · have d3 : decide (0 < i) = true := by simp; omega
          have d3' : decide ((0 : Int) < (i : Int)) = true := by simp; omega
          go_wp2_with fail
          go_meet
          exact ⟨by rw [d3]; rfl, Lib.hid rfl⟩
        · obtain rfl : i = 0 := by omega
          go_wp2_with fail
          go_meet
          exact ⟨by simp, Lib.hid rfl⟩
      case rest =>
      obtain ⟨rfl, hwx⟩ := hcut
      have hwx' := hwx.out
      subst hwx'
      clear hwx
      go_upto_if 50 with fail
      go_cut [] (fun wx => ∃ (cs2 : List Nat) (ob2 : Option Nat), ClS w1 sz cl g v want cs2 ob2 wx ∧ plMany cl 0 cs2 = 0 ∧ cs2.length ≤ 31 * i + 1)
      case first =>
        cases hb : (decide (0 < i) || first) with
        | true =>
          have hbl5 : (cb (sz + 1) cs).length ≤ 500000 := by omega
          clear hb
          go_wp2_with fail
          refine (clr_put HS.out.1 hbl5 (cl : Nat) X1.out (sz + 1) hs9).mono ?_
          rintro e w2 ⟨rfl, -, ob2, -, hK⟩
          obtain ⟨hS2, hM2⟩ := HS.out.clear hK
          have HS2 := Lib.hid hS2
          have HM2 := Lib.hid hM2
          clear hK hS2 hM2
          go_wp2_with fail
          go_meet
          exact ⟨cs ++ [cl], ob2, HS2.out, HM2.out, by simp; omega⟩
        | false =>
          obtain rfl : i = 0 := by
            apply Nat.eq_zero_of_not_pos
            intro h
            simp [h] at hb
          obtain rfl := HZ.out rfl
          go_wp2_with fail
          go_meet
          exact ⟨[], ob, HS.out, rfl, by simp⟩
      case rest =>
        obtain ⟨cs2, ob2, hS2, hM2, hcs2⟩ := hcut
        have HS2 := Lib.hid hS2
        have HM2 := Lib.hid hM2
        clear hS2 hM2 HS HZ hbl hci k5 hbk d1 d2
        go_wp2_with fail
        go_loopw [10, 12] (fun s10 s12 wx => ∃ (j : Nat) (v : Value) (want cs : List Nat) (ob : Option Nat), v = s10 ∧ s12 = .int .i64 (j : Nat) ∧ j ≤ ni ∧ j + 2 ≤ cl ∧ ClS w1 sz cl g v want cs ob wx ∧ plMany cl 0 cs = j ∧ cs.length ≤ 31 * i + 1 + j) (fun _ s12 _ => ni - (intOf s12).toNat)
        case atStart => exact ⟨0, _, want, cs2, ob2, rfl, rfl, by omega, by omega, HS2.out, HM2.out, by omega⟩
        case round =>
          clear HS2 HM2 hcs2 hcs
          obtain ⟨j, v3, want3, cs3, ob3, hv3, rfl, hj1, hj2, hS, hM, hcs⟩ := hrel
          subst hv3
          obtain ⟨k1, k2⟩ := HL1.out.below hS.1.pk.2.1
          obtain ⟨bk', off', he, hbk', hc⟩ := k1 (by omega)
          injection he with he
          injection he with u1 u2
          subst u1 u2
          have hci := hc i hlt
          rw [← HR.out] at hci
          dsimp only at hci
          obtain ⟨_, _, k5, _⟩ := k2 i hlt
          rw [← HR.out] at k5
          dsimp only at k5
          have HS := Lib.hid hS
          have HMN := Lib.hid hM
          clear k1 k2 hc hS hM
          by_cases e1 : j < ni
          · have t2 : decide (j < ni) = true := by simp; omega
            by_cases e2 : j + 2 < cl
            · have t3 : decide ((j : Int) < (cl : Int) - 2) = true := by simp; omega
              obtain ⟨ba, oa, rfl, hba, hca⟩ := k5 (by omega)
              have hcx := hca j e1
              have hx256 := k6 j
              have HX := Lib.hid (HM.out (d j) hx256)
              obtain ⟨x, hx⟩ : ∃ x, x = d j := ⟨_, rfl⟩
              rw [← hx] at hcx hx256 HX
              obtain ⟨y, hy⟩ : ∃ y, y = x % cl := ⟨_, rfl⟩
              have hyc : y < cl := by rw [hy]; exact Nat.mod_lt _ (by omega)
              rw [← hy] at HX
              obtain ⟨q, hq⟩ : ∃ q, q = cl - 1 := ⟨_, rfl⟩
              have HQ2 := HQ.out
              have HX2 := HX.out
              rw [← hq] at HQ2 HX2
              have hbl : (cb (sz + 1) cs3).length ≤ 500000 := by
                rw [cb_len]
                have : cs3.length * (sz + 1) ≤ 700 * 9 := Nat.mul_le_mul (by omega) (by omega)
                omega
              have hwl := HS.out.want_len
              have hwl2 : want3.length ≤ 100000 := by omega
              have Y1 := Lib.hid (in64_nat (k := y) (by omega))
              have hys : Hid (y ≤ 255) := Lib.hid (by omega)
              have hyb : y ≤ 255 := by omega
              have HX9 := Lib.hid HX2
              have HQ9 := Lib.hid HQ2
              clear hca hx hy hq HX HX2 HQ2 hwl
              have u3 := HX9.out
              have u4 := HQ9.out
              go_wp2_with fail
              clear u3 u4
              refine (clr_put HS.out.1 hbl (y : Nat) Y1.out (sz + 1) hs9).mono ?_
              rintro e w5 ⟨rfl, -, ob5, -, hK⟩
              obtain ⟨v6, w6, hrun, hK6⟩ := clr_app hK y hwl2
              obtain ⟨hS6, hM6⟩ := HS.out.val hyc HMN.out e2 hK6
              have HS6 := Lib.hid hS6
              have HM6 := Lib.hid hM6
              have HRUN := Lib.hid hrun
              clear hK hK6 hS6 hM6 hrun
              go_wp2_with (at_builtin; refine wpList_app rfl _ _ 22 rfl _ _ _ _ rfl rfl HRUN.out ?_)
              go_roundw
              case rel => exact ⟨j + 1, _, _, _, ob5, rfl, by go_num, by omega, by omega, HS6.out, HM6.out, by simp; omega⟩
              case measure => simp [intOf]; omega
            · have t3 : decide ((j : Int) < (cl : Int) - 2) = false := by simp; omega
              go_wp2_with fail
              go_roundw
              case rel => exact ⟨i + 1, _, want3, cs3, ob3, rfl, by omega, by go_num, HS.out, by omega, fun h => absurd h (by omega)⟩
              case measure => simp [intOf]; omega
          · have t2 : decide (j < ni) = false := by simp; omega
            go_wp2_with fail
            go_roundw
            case rel => exact ⟨i + 1, _, want3, cs3, ob3, rfl, by omega, by go_num, HS.out, by omega, fun h => absurd h (by omega)⟩
            case measure => simp [intOf]; omega
    · obtain rfl : i = m := by omega
      obtain ⟨hR, hok, hwant⟩ := HS.out
      have hcsl : cs.length ≤ 620 := by omega
      have hbl : (cb (sz + 1) cs).length ≤ 10000 := by
        rw [cb_len]
        have : cs.length * (sz + 1) ≤ 620 * 9 := Nat.mul_le_mul (by omega) (by omega)
        omega
      have hwl : want.length ≤ cs.length := HS.out.want_len
      have hall := plain_all (most := want.length) hs2 hs8 HCL.out cs hok (by rw [hwant]; exact Nat.le_refl _)
      have hbad := plain_bad (most := want.length + 9) hs2 hs8 HCL.out cs hok (by rw [hwant]; omega)
      rw [hwant] at hall
      obtain ⟨bits, hbits⟩ : ∃ bits, bits = cb (sz + 1) cs := ⟨_, rfl⟩
      rw [← hbits] at hR hbl
      rw [cb_snoc, ← hbits] at hall
      rw [cb_snoc, cb_snoc, ← hbits] at hbad
      have hb2 : ∀ v ∈ bits, v < 2 := by rw [hbits]; exact cb_lt _ _
      obtain ⟨-, Av, cv, rfl, -, -, -⟩ := Sl.of_own hR.own
      obtain ⟨vo, hgb, hgo, hgob⟩ := hR.pk.1.row
      have hgob' := hgob
      obtain ⟨vb, w2, hrun, hob2, hBc⟩ := copy_bits hgo (by omega)
      obtain ⟨-, Ab, cb3, rfl, -, -, -⟩ := Sl.of_own hob2
      have cg := hp_cell (j := 0) (hp_alloc (.cells #[] 3) hgb) rfl
      have hR2 := hR.below hBc
      have hgl := hR.pk.1.g_lt
      have hobl : ∀ k, ob = some k → k < wr.heap.size := fun k hk => hR.pk.1.ob_lt hk
      have HRUN := Lib.hid hrun
      have HR2 := Lib.hid hR2
      have HOB2 := Lib.hid hob2
      have HOBL := Lib.hid hobl
      have HALL := Lib.hid hall
      have HBAD := Lib.hid hbad
      have HB2 := Lib.hid hb2
      have hsz2 := hBc.size
      have hbl5 : bits.length ≤ 500000 := by omega
      have H10 := Lib.hid hR.ap
      have HOWNLT := Lib.hid (show ∀ k, (Value.slice Av want.length cv).ownBlock = some k → k < wr.heap.size from fun k hk => (hR.own.lt k hk).2)
      clear hR hok hwant hall hbad hbits hb2 hgb hgo hgob hgob' hrun hob2 hR2 hobl hcs HZ HS hBc
      obtain ⟨wz, hwz⟩ : ∃ wz, wz = wr := ⟨_, rfl⟩
      subst hwz
      go_wp2_with (at_builtin; refine wpList_app rfl _ _ 31 rfl _ _ _ _ rfl rfl HRUN.out ?_)
      refine (clr_put HR2.out hbl5 ((cl + 1 : Nat) : Int) X2.out (sz + 1) hs9).mono ?_
      rintro e w3 ⟨rfl, hC3, ob3, hN3, hR3⟩
      have hnear : ∀ k ∈ Near g ob, k < wz.heap.size := fun k hk => by
        rcases List.mem_cons.1 hk with h | h
        · omega
        · exact HOBL.out k (by simpa using h)
      have hob3 := own_chg HOB2.out hC3 (fun k hk hm => by have := (HOB2.out.lt k hk).1; have := hnear k hm; omega)
      have HR3 := Lib.hid hR3
      have HOB3 := Lib.hid hob3
      have hsz3 := hC3.size
      obtain ⟨B1, hB1⟩ : ∃ B, B = bits ++ numB false ((cl + 1 : Nat) : Int) (sz + 1) := ⟨_, rfl⟩
      rw [← hB1] at HALL HR3
      have hB1l : B1.length ≤ 500000 := by rw [hB1, List.length_append, numB_len]; omega
      have hZ1 : (pack false B1).1.length ≤ 100000 := by rw [pack_len]; omega
      have HG1 := Lib.hid (gz_lt (pack_lt' false B1 HR3.out.pk.1.lt))
      have HVB := Lib.hid (show ∀ k, (Value.slice Ab bits.length cb3).ownBlock = some k → wz.heap.size ≤ k ∧ k < w2.heap.size from fun k hk => HOB2.out.lt k hk)
      clear hC3 hR3 hob3 hN3 HR2 HOB2 hB1 hnear HRUN
      go_wp2_with fail
      refine (pkR_out HR3.out.pk hB1l).mono ?_
      rintro e w4 ⟨A4, cap4, rfl, hN4, hB4⟩
      have HR4 := Lib.hid (HR3.out.below hB4)
      have HOB4 := Lib.hid (own_chg HOB3.out (Chg.of_below (S := []) hB4) (fun _ _ => by simp))
      have HN4 := Lib.hid hN4
      have hsz4 := hB4.size
      clear hN4 hB4 HR3 HOB3
      go_wp2_with fail
      have hcall := read_lzw A4 (pack false B1).1.length cap4 (gz (pack false B1).1) HG1.out HN4.out.le HN4.out.max HN4.out.nil (by omega) (sz : Nat) (want.length : Nat) (by omega) _ HN4.out.byt
      rw [HALL.out] at hcall
      dsimp only at hcall
      refine hcall.mono ?_
      rintro e w5 ⟨A5, cap5, rfl, hN5, hB5⟩
      have hR5 := HR4.out.below hB5
      have hob5 := own_chg HOB4.out (Chg.of_below (S := []) hB5) (fun _ _ => by simp)
      have hsz5 := hB5.size
      obtain ⟨W6, hW6⟩ : ∃ W6, W6 = w5.alloc (.cells #[.slice Ab bits.length cb3, .bool false] 46) := ⟨_, rfl⟩
      have hU : ClU w1 w5.heap.size bits (Value.slice Ab bits.length cb3).ownBlock (.slice Av want.length cv) want A5 want.length (gz want) W6 := by
        rw [hW6]
        refine ⟨⟨⟨_, hp_new0 _ _, own_base (hob5.alloc _), rfl⟩, fun e => ?_, HB2.out⟩, hR5.own.alloc _, hN5.byt.below ((Below.refl _ w5).alloc (Nat.le_refl _) _), fun k hk => ⟨?_, fun e => ?_⟩, fun a ha => ⟨?_, fun e => ?_, ?_⟩, hR5.pk.2.1.alloc hR5.pk.2.1.size _, hR5.pk.2.1.size, fun k hk => ?_⟩
        · have := (HVB.out _ e).2
          omega
        · have := HOWNLT.out k hk
          omega
        · have := HOWNLT.out k hk
          have := (HVB.out _ e).1
          omega
        · have := hN5.lt a ha
          omega
        · have := hN5.far a ha
          have := (HVB.out _ e).2
          omega
        · have := hN5.lt a ha
          simp
          omega
        · have := (HVB.out _ hk).1
          have := hgl
          have := HR4.out.pk.2.2.1
          omega
      have HU := Lib.hid hU
      rw [hW6] at HU
      clear hcall hN5 hB5 hR5 hob5 hU hW6 HR4 HOB4 HN4 HG1 HALL HVB
      go_wp2_with fail
      refine (clu_put HU.out hbl5 (cl : Nat) X1.out (sz + 1) hs9).mono ?_
      rintro e w6 ⟨rfl, ob6, hU6⟩
      have HU6 := Lib.hid hU6
      have hbl6 : (bits ++ numB false ((cl : Nat) : Int) (sz + 1)).length ≤ 500000 := by rw [List.length_append, numB_len]; omega
      have HL6 := Lib.hid hbl6
      clear hU6 HU hbl6
      go_wp2_with fail
      refine (clu_put HU6.out HL6.out ((cl + 2 : Nat) : Int) X3.out (sz + 1) hs9).mono ?_
      rintro e w7 ⟨rfl, ob7, hU7⟩
      obtain ⟨B2, hB2⟩ : ∃ B, B = bits ++ numB false ((cl : Nat) : Int) (sz + 1) ++ numB false ((cl + 2 : Nat) : Int) (sz + 1) := ⟨_, rfl⟩
      rw [← hB2] at HBAD hU7
      have hB2l : B2.length ≤ 500000 := by rw [hB2, List.length_append, List.length_append, numB_len, numB_len]; omega
      have hZ2 : (pack false B2).1.length ≤ 100000 := by rw [pack_len]; omega
      have HG2 := Lib.hid (gz_lt (pack_lt' false B2 hU7.pk.lt))
      have HU7 := Lib.hid hU7
      clear hU7 hB2 HU6 HL6
      go_wp2_with fail
      refine (out_pk _ B2 false _ hB2l _ HU7.out.pk).mono ?_
      rintro e w8 ⟨A8, cap8, rfl, hN8, hB8⟩
      have HN8 : Hid (NewB w7.heap.size w8 (pack false B2).1.length A8 cap8 (gz (pack false B2).1)) := Lib.hid hN8
      have HB8 := Lib.hid hB8
      clear hN8 hB8
      go_wp2_with fail
      have hcall := read_lzw A8 (pack false B2).1.length cap8 (gz (pack false B2).1) HG2.out HN8.out.le HN8.out.max HN8.out.nil (by omega) (sz : Nat) ((want.length + 9 : Nat) : Int) (by omega) _ HN8.out.byt
      rw [HBAD.out] at hcall
      dsimp only at hcall
      refine hcall.mono ?_
      rintro e w9 ⟨A9, cap9, rfl, hN9, hB9⟩
      have hB79 := HB8.out.trans (hB9.mono HB8.out.size)
      have hby5 := HU7.out.byt.below hB79
      have hown9 := own_chg HU7.out.own (Chg.of_below (S := []) hB79) (fun _ _ => by simp)
      obtain ⟨A0, c0, he0, _, _, _, hq0⟩ := byt_of_row hown9
      injection he0 with y1 y2 y3
      subst y1 y3
      have r1 := run_str (cap := cap5) hby5
      have r2 := run_str (cap := cv) (show Byt w9 Av want.length (gz want) from hq0)
      have r3 := ba_beq (strB want.length (gz want))
      have HBE := Lib.hid (HB1.out.trans ((HU7.out.bel.trans (hB79.mono HU7.out.bel.size)).mono HB1.out.size))
      obtain ⟨wl, hwl9⟩ : ∃ wl, wl = want.length := ⟨_, rfl⟩
      clear hB79 hby5 hown9 hq0 hN9 hB9 hcall HN8 HB8 HG2 HU7 HBAD y2 hwl9
      go_wp2
      go_ret
      exact ⟨rfl, HBE.out⟩
end Go.Proofs.Ytioghgnngdcicaa
