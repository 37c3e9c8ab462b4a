/- BmpwriteTold: the walk. -/
import Derived.Test.YthgafdbdmemkhaaNsW
namespace Go.Proofs.Ythgafdbdmemkhaa
set_option linter.unusedVariables false
open Go.ChangeShapes Go.WideShapes Go.ChangeAt Go.RowKit

set_option maxRecDepth 100000 in
set_option maxHeartbeats 4000000 in
theorem told_walk (a b : Int) (A : Option Addr) (n cap : Nat) (c : Nat → Nat) (hc : ∀ i, c i < 65536) (t s : Nat) (ht : t < 65536) (hs : s < 65536) (ha : In64 a) (hb : In64 b) (hn : n ≤ cap) (hmax : cap ≤ maxLen) (hz : A = none → cap = 0) (w : World) (hP : Pix w A n c) :
    Calls Try.prog 4 #[.agg #[.int .i64 a, .int .i64 b, .slice A n cap], .int .u16 t, .int .u16 s] w fun e w' => e = .returned (.bool true) ∧ Below w.heap.size w w' := by
  have HB := Lib.hid ((Below.refl _ w).alloc (Nat.le_refl _) (.cells #[.int .i64 a, .int .i64 b, .slice A n cap] 26))
  have HX := Lib.hid (hp_new0 w (.cells #[.int .i64 a, .int .i64 b, .slice A n cap] 26))
  have HP := Lib.hid (hP.below HB.out)
  have HC := Lib.hid hc
  clear hP hc
  go_enter Try.func4, Try.ntmps4
  go_wp2_with fail
  generalize w.alloc (.cells #[.int .i64 a, .int .i64 b, .slice A n cap] 26) = w1 at *
  refine (awake19 _).mono ?_
  rintro e w2 ⟨rfl, hB2⟩
  have HB2 := Lib.hid (HB.out.trans (hB2.mono HB.out.size))
  have HX2 := Lib.hid (hp_below HX.out hB2 (lt_heap HX.out))
  have HP2 := Lib.hid (HP.out.below hB2)
  clear hB2
  have k0 := hp_cell (j := 0) HX2.out rfl
  have k1 := hp_cell (j := 1) HX2.out rfl
  have k2 := hp_cell (j := 2) HX2.out rfl
  by_cases hbig : 3000 < n
  · have hbg : decide ((3000 : Int) < (n : Int)) = true := decide_eq_true (by omega)
    go_wp2_with fail
    go_ret
    exact ⟨rfl, HB2.out⟩
  · have hbg : decide ((3000 : Int) < (n : Int)) = false := decide_eq_false (by omega)
    go_wp2_with fail
    refine (fits_ref a b A n cap c 3 HC.out ha hb (by unfold In64; omega) hn hmax _ HP2.out).mono ?_
    rintro e w3 ⟨rfl, hB3⟩
    have HB3 := Lib.hid (HB2.out.trans (hB3.mono HB2.out.size))
    have HX3 := Lib.hid (hp_below HX2.out hB3 (lt_heap HX2.out))
    have HP3 := Lib.hid (HP2.out.below hB3)
    clear hB3 k0 k1 k2
    cases hf : fitsB a b n c 3 with
    | false =>
      clear hf
      go_wp2_with fail
      go_ret
      exact ⟨rfl, HB3.out⟩
    | true =>
      obtain ⟨a', b', N, rfl, rfl, hn4, hab, ha', hb', hN, hz0, h257⟩ := pic_nat hf
      have k0 := hp_cell (j := 0) HX3.out rfl
      have k1 := hp_cell (j := 1) HX3.out rfl
      have k2 := hp_cell (j := 2) HX3.out rfl
      have HN4 := Lib.hid hn4
      have HAB := Lib.hid hab
      have hn40 : 0 < n := by
        have : 1 * 1 ≤ a' * b' := Nat.mul_le_mul ha'.1 hb'.1
        omega
      clear hf hn4 hab
      go_wp2_with fail
      refine (copy_ref a' b' A n cap c hn hmax hz (by omega) _ HP3.out).mono ?_
      rintro e w4 ⟨⟨A4, cap4, rfl, hn4', hc4, _, hO4⟩, hB4⟩
      obtain ⟨g, cur, rfl, hgB, _⟩ := hO4 hn40
      have hgl := (hO4.lt g hn40 rfl).2
      have hal : Below w4.heap.size w4 (w4.alloc (.cells #[.int .i64 a', .int .i64 b', .slice (some ⟨g, 0, none⟩) n cap4] 26)) := (Below.refl _ w4).alloc (Nat.le_refl _) _
      have HR := Lib.hid (hp_new0 w4 (.cells #[.int .i64 a', .int .i64 b', .slice (some ⟨g, 0, none⟩) n cap4] 26))
      have hO4k := hO4
      have HB4k := Lib.hid (HB3.out.trans (hB4.mono HB3.out.size))
      have HO := Lib.hid ((hO4.below hal).le HB3.out.size)
      have HB4 := Lib.hid (HB3.out.trans ((hB4.trans (hal.mono hB4.size)).mono HB3.out.size))
      have hw3 := HB3.out.size
      have h257s := h257
      have HNN := Lib.hid (show 0 < n from hn40)
      clear hal hO4 hB4 k0 k1 k2
      have r2 := hp_cell (j := 2) HR.out rfl
      have r0 := hp_cell (j := 0) HR.out rfl
      have r1 := hp_cell (j := 1) HR.out rfl
      obtain ⟨k, hk⟩ : ∃ k, k = t % n := ⟨_, rfl⟩
      have hkn : k < n := by rw [hk]; exact Nat.mod_lt _ hn40
      have e1 : (t : Int) % (n : Int) = (k : Int) := by rw [hk]; simp
      have e2 : Int.tmod (t : Int) (n : Int) = (k : Int) := by rw [Int.tmod_eq_emod_of_nonneg (by omega), e1]
      have e3 : ¬ n = 0 := by omega
      have e4 : ((n : Int) == 0) = false := beq_eq_false_iff_ne.2 (by omega)
      obtain ⟨ci, fi, hgB2, hg9⟩ := own_cell HO.out hkn
      have hO5 := own_put hO4k k s
      have hsz : (w4.setCell ⟨g, k, none⟩ (.int .u16 (s : Nat))).heap.size = w4.heap.size := by simp [World.setCell]
      have hal2 : Below w4.heap.size (w4.setCell ⟨g, k, none⟩ (.int .u16 (s : Nat))) ((w4.setCell ⟨g, k, none⟩ (.int .u16 (s : Nat))).alloc (.cells #[.int .i64 a', .int .i64 b', .slice (some ⟨g, 0, none⟩) n cap4] 26)) := hsz ▸ (Below.refl _ (w4.setCell ⟨g, k, none⟩ (.int .u16 (s : Nat)))).alloc (Nat.le_refl _) _
      have HR5 := Lib.hid (hp_newk (o := (.cells #[.int .i64 a', .int .i64 b', .slice (some ⟨g, 0, none⟩) n cap4] 26)) hsz)
      have HO5 := Lib.hid ((hO5.below (hsz ▸ hal2)).le HB3.out.size)
      have HB5 := Lib.hid ((HB4k.out.setCell (p := ⟨g, k, none⟩) (by simp; omega) (.int .u16 (s : Nat))).trans (hal2.mono (by omega)))
      clear hk hO4k hO5 hsz hal2 HB4k
      go_wp2_with fail
      generalize ((w4.setCell ⟨g, k, none⟩ (.int .u16 (s : Nat))).alloc (.cells #[.int .i64 a', .int .i64 b', .slice (some ⟨g, 0, none⟩) n cap4] 26)) = w5 at *
      obtain ⟨rb, hrb⟩ : ∃ rb, rb = w4.heap.size := ⟨_, rfl⟩
      rw [← hrb] at HR5 hgl ⊢
      clear hrb r0 r1 r2 ci fi HR HO HB4
      have HC5 := Lib.hid (show ∀ i, up1 c k s i < 65536 from fun i => by unfold up1; split; exact hs; exact HC.out i)
      have hPx := HO5.out.pix
      by_cases h9 : s % 257 = 0
      · have h257u : ∀ i, i < n → up1 c k s i % 257 = 0 := fun i hi => by
          unfold up1
          split
          · exact h9
          · exact h257 i (by have := HN4.out; omega)
        have f1 : (s : Int) % 257 = 0 := by omega
        refine (enc_n4 a' b' N n HN4.out (some ⟨g, 0, none⟩) cap4 (up1 c k s) HC5.out hn4' hc4 hz0 HAB.out ha' hb' hN h257u _ hPx).mono ?_
        rintro e w4 ⟨gb, capb, m, rfl, hml, hB4, hBM⟩
        have HBM := Lib.hid hBM
        have HR6 := Lib.hid (hp_below HR5.out hB4 (lt_heap HR5.out))
        have HO6 := Lib.hid (HO5.out.below hB4)
        have HB6 := Lib.hid (HB5.out.trans (hB4.mono HB5.out.size))
        clear hBM hB4 hPx hml h257u
        go_wp2_with fail
        refine HBM.out.mono ?_
        rintro e w8 ⟨A8, cap8, rfl, hn8, hc8, hP8, hB8⟩
        have hR8 := hp_below HR6.out hB8 (lt_heap HR6.out)
        have hO8 := HO6.out.below hB8
        have hal8 : Below w8.heap.size w8 (w8.alloc (.cells #[.int .i64 a', .int .i64 b', .slice A8 n cap8] 26)) := (Below.refl _ w8).alloc (Nat.le_refl _) _
        have hQ9 := hp_new0 w8 (.cells #[.int .i64 a', .int .i64 b', .slice A8 n cap8] 26)
        have hR9 := hp_below hR8 hal8 (lt_heap hR8)
        have hB9 := HB6.out.trans ((hB8.trans (hal8.mono hB8.size)).mono HB6.out.size)
        have HP9 := Lib.hid (hP8.below hal8)
        have HO9 := Lib.hid (hO8.below hal8).pix
        have HB9 := Lib.hid hB9
        have HQ9 := Lib.hid hQ9
        have HR9 := Lib.hid hR9
        have k0 := hp_cell (j := 0) hR9 rfl
        have k1 := hp_cell (j := 1) hR9 rfl
        have k2 := hp_cell (j := 2) hR9 rfl
        have q0 := hp_cell (j := 0) hQ9 rfl
        have q1 := hp_cell (j := 1) hQ9 rfl
        have q2 := hp_cell (j := 2) hQ9 rfl
        clear hR8 hO8 hal8 hQ9 hR9 hB9 hP8 hB8
        go_wp2_with fail
        refine (same_ref a' b' A8 n cap8 (up1 c k s) a' b' (some ⟨g, 0, none⟩) n cap4 (up1 c k s) (by unfold In64; omega) (by unfold In64; omega) (by unfold In64; omega) (by unfold In64; omega) hn8 hc8 hn4' hc4 _ HP9.out HO9.out).mono ?_
        rintro e w10 ⟨rfl, hB10⟩
        rw [same_self19 (up1 c k s) (by rw [HN4.out]; exact mayN hz0 HAB.out)]
        have HF := Lib.hid (HB9.out.trans (hB10.mono HB9.out.size))
        clear hB10 k0 k1 k2 q0 q1 q2
        go_wp2_with fail
        go_ret
        exact ⟨rfl, HF.out⟩
      · have hfit : fitsB a' b' n (up1 c k s) 3 = false := by
          have hm : mayB a' b' n = true := by rw [HN4.out]; exact mayN hz0 HAB.out
          have hb0 : bytesB n (up1 c k s) = false := bytes_f hkn (by simp [up1, h9])
          simp [fitsB, hm, hb0]
        have hmay : mayB a' b' n = true := by rw [HN4.out]; exact mayN hz0 HAB.out
        refine (enc_depth a' b' _ n cap4 _ HC5.out ha hb hn4' hc4 hmay hfit _ hPx).mono ?_
        rintro e w6 ⟨rfl, hB6⟩
        have HF := Lib.hid (HB5.out.trans (hB6.mono HB5.out.size))
        obtain ⟨u, hu⟩ : ∃ u, u = s % 257 := ⟨_, rfl⟩
        have f1 : (s : Int) % 257 = (u : Int) := by omega
        have f2 : ((u : Int) == 0) = false := beq_eq_false_iff_ne.2 (by omega)
        clear hB6 hfit hmay hPx hu
        go_wp2_with fail
        go_ret
        exact ⟨rfl, HF.out⟩
end Go.Proofs.Ythgafdbdmemkhaa
