/- gifread's small functions: must, number, take, colours, pieces, sample, pixel. gifread's small functions: colours, pieces, sample, pixel. gifread.Rows: the order of a laced picture's rows. -/
import Derived.Test.YtkjlejkcedemlaaM14
import Derived.StillTailTactics
namespace Go.Proofs.Ytkjlejkcedemlaa
set_option maxRecDepth 100000
set_option linter.unusedVariables false
open Go.ChangeShapes Go.WideShapes Go.ChangeAt Go.RowKit

theorem gmust_yes (q : Int) (w : World) : Calls Try.prog 37 #[.bool true, .int .i64 q] w fun e w' => e = .returned (.tuple #[]) ∧ w = w' := by
  go_enter Try.func37, Try.ntmps37
  go_wp2
  go_end0
  exact ⟨rfl, rfl⟩
theorem gmust_no (q : Int) (w : World) : Calls Try.prog 37 #[.bool false, .int .i64 q] w fun e w' => PanE q e ∧ w = w' := by
  go_enter Try.func37, Try.ntmps37
  go_wp2
  exact ⟨rfl, rfl, rfl⟩
theorem number_g (Z : Option Addr) (n cz : Nat) (c : Nat → Nat) (hc : ∀ i, c i < 256) (hn : 2 ≤ n) (hnz : n ≤ cz) (w : World) (hB : Byt w Z n c) :
    Calls Try.prog 36 #[.slice Z n cz] w fun e w' => e = .returned (.int .i64 (lowD c 0 2 : Nat)) ∧ ∃ k, w' = w.drewN k := by
  obtain ⟨bk, of, rfl, hlt, hcl⟩ := hB (by omega)
  have h0 := hcl 0 (by omega)
  have h1 := hcl 1 (by omega)
  have b0 := hc 0
  have b1 := hc 1
  rw [Nat.add_zero] at h0
  obtain ⟨x, hx⟩ : ∃ x, x = c 0 := ⟨_, rfl⟩
  obtain ⟨y, hy⟩ : ∃ y, y = c 1 := ⟨_, rfl⟩
  have hv : lowD c 0 2 = x + 256 * y := by rw [hx, hy]; simp [lowD]
  rw [hv]
  rw [← hx] at h0 b0
  rw [← hy] at h1 b1
  have ho : bits .or .i64 (x : Int) (256 * (y : Int)) = (x : Int) + 256 * (y : Int) := by
    have h := i64_or_nat (y * 256) x (by omega) (by omega)
    rw [or_byte y x b0] at h
    have h2 := i64_or_nat x (256 * y) (by omega) (by omega)
    have h3 : x ||| 256 * y = x + 256 * y := by
      rw [Nat.or_comm, Nat.mul_comm, or_byte y x b0]
      omega
    rw [h3] at h2
    rw [Int.natCast_mul] at h2
    rw [show ((256 : Nat) : Int) = 256 from rfl] at h2
    rw [h2]
    omega
  have ho2 : bits .or .i64 (x : Int) ((y : Int) * 256) = (x : Int) + 256 * (y : Int) := by rw [Int.mul_comm]; exact ho
  clear hcl hB hc hx hy hv
  go_enter Try.func36, Try.ntmps36
  go_wp2_with fail
  go_quiet (fail)
  go_wp2
  go_ret
  exact ⟨by simp, nq, rfl⟩
/-- A reader that stands at p of a file's m bytes; T: its table, cl: the clear place. -/
structure GdS (g m p : Nat) (b : Nat → Nat) (T : Value) (cl : Int) (w : World) : Prop where
  lt : g < w.heap.size
  pm : p ≤ m
  st : ∃ Z cz, w.heap[g]? = some (.cells #[.slice Z (m - p) cz, T, .int .i64 cl] 53 (0, 0)) ∧ m - p ≤ cz ∧ cz ≤ maxLen ∧ (Z = none → cz = 0) ∧ (∀ a, Z = some a → a.block < g) ∧ Byt w Z (m - p) (fun i => b (p + i))
theorem GdS.below {g m p : Nat} {b : Nat → Nat} {T : Value} {cl : Int} {w w' : World} (h : GdS g m p b T cl w) (hb : Below w.heap.size w w') : GdS g m p b T cl w' := by
  obtain ⟨h1, h2, Z, cz, h3, h4, h5, h6, h7, h8⟩ := h
  exact ⟨Nat.lt_of_lt_of_le h1 hb.size, h2, Z, cz, hp_below h3 hb h1, h4, h5, h6, h7, h8.below hb⟩
/-- A slice of the file's bytes, from q on. -/
structure SlG (g q n : Nat) (b : Nat → Nat) (Z : Option Addr) (cz : Nat) (w : World) : Prop where
  le : n ≤ cz
  max : cz ≤ maxLen
  far : ∀ a, Z = some a → a.block < g
  byt : Byt w Z n (fun i => b (q + i))
theorem SlG.below {g q n : Nat} {b : Nat → Nat} {Z : Option Addr} {cz : Nat} {w w' : World} (h : SlG g q n b Z cz w) (hb : Below w.heap.size w w') : SlG g q n b Z cz w' := ⟨h.le, h.max, h.far, h.byt.below hb⟩
theorem Byt.chgG {w w' : World} {A : Option Addr} {n g : Nat} {c : Nat → Nat} (h : Byt w A n c) (hc : Chg [g] w w') (hf : ∀ a, A = some a → a.block < g) : Byt w' A n c := fun hn => by
  obtain ⟨bk, off, rfl, hlt, hcl⟩ := h hn
  have hb := hf _ rfl
  refine ⟨bk, off, rfl, Nat.lt_of_lt_of_le hlt hc.size, fun j hj => ?_⟩
  have hblk := hc.block bk hlt (by simp; exact fun e => by have : bk < g := hb; omega)
  have := hcl j hj
  unfold World.cell? at this ⊢
  rw [hblk]
  exact this
theorem SlG.chg {g q n : Nat} {b : Nat → Nat} {Z : Option Addr} {cz : Nat} {w w' : World} (h : SlG g q n b Z cz w) (hc : Chg [g] w w') : SlG g q n b Z cz w' := ⟨h.le, h.max, h.far, h.byt.chgG hc h.far⟩
set_option maxRecDepth 100000 in
set_option maxHeartbeats 1000000 in
theorem take_yes (g m p n : Nat) (b : Nat → Nat) (T : Value) (cl : Int) (w : World) (h : GdS g m p b T cl w) (hn : p + n ≤ m) (hsm : m ≤ 1000000) :
    Calls Try.prog 34 #[.pointer (some ⟨g, 0, none⟩), .int .i64 (n : Nat)] w fun e w' => ∃ Z cz, e = .returned (.slice Z n cz) ∧ SlG g p n b Z cz w' ∧ GdS g m (p + n) b T cl w' ∧ Chg [g] w w' := by
  obtain ⟨h1, h2, Z, cz, h3, h4, h5, h6, h7, h8⟩ := h
  obtain ⟨r, hr⟩ : ∃ r, r = m - p := ⟨_, rfl⟩
  rw [← hr] at h3 h4 h8
  have c0 := hp_cell (j := 0) h3 rfl
  have cf := hp_froz h3
  have t1 : decide (n ≤ r) = true := by simp; omega
  have t2 : decide ((n : Int) ≤ (r : Int)) = true := by simp; omega
  have RH := run_hi Z r cz n (by omega)
  have RL := run_lo Z r cz n (by omega)
  obtain ⟨Z', hZ⟩ : ∃ Z', Z' = (if cz = n then Z else Z.map (·.add n)) := ⟨_, rfl⟩
  rw [← hZ] at RL
  have H3 := Lib.hid h3
  have H8 := Lib.hid h8
  have H6 := Lib.hid h6
  have H7 := Lib.hid h7
  have HR := Lib.hid hr
  have HZ := Lib.hid hZ
  clear h3 h8 h6 h7 hr hZ
  go_enter Try.func34, Try.ntmps34
  go_wp2_with fail
  refine (gmust_yes 2 _).mono ?_
  rintro e w1 ⟨rfl, rfl⟩
  go_wp2_with fail
  go_ret
  have hz := HZ.out
  have hr := HR.out
  have hw : Chg [g] w (w.setCell ⟨g, 0, none⟩ (.slice Z' (r - n) (cz - n))) := (Chg.refl [g] w).set (.inl (by simp)) 0 _
  refine ⟨Z, cz, rfl, ⟨by omega, h5, H7.out, fun hn0 => ?_⟩, ⟨by simpa [World.setCell] using h1, by omega, Z', cz - n, ?_, by omega, by omega, ?_, ?_, ?_⟩, hw⟩
  · exact (Byt.chgG (n := n) (fun hn => by
      obtain ⟨bk, off, h9, h10, h11⟩ := H8.out (by omega)
      exact ⟨bk, off, h9, h10, fun j hj => h11 j (by omega)⟩) hw H7.out) hn0
  · rw [show m - (p + n) = r - n by omega]
    exact heap_set H3.out
  · rw [hz]
    split
    · intro hh; omega
    · intro hh
      have : Z = none := by cases Z with
        | none => rfl
        | some a => simp at hh
      have := H6.out this
      omega
  · intro a ha
    rw [hz] at ha
    split at ha
    · exact H7.out a ha
    · cases Z with
      | none => simp at ha
      | some a0 =>
        simp at ha
        subst ha
        have h9 := H7.out a0 rfl
        unfold Addr.add
        split <;> exact h9
  · have hb := Byt.from (n := r) (q := n) (k := r - n) H8.out (by omega) (by omega)
    rw [← hz] at hb
    rw [show m - (p + n) = r - n by omega]
    have hb2 : Byt w Z' (r - n) (fun i => b (p + n + i)) := fun hn => by
      obtain ⟨bk, off, h9, h10, h11⟩ := hb hn
      exact ⟨bk, off, h9, h10, fun j hj => by rw [h11 j hj]; simp only [Nat.add_assoc]⟩
    refine hb2.chgG hw ?_
    intro a ha
    rw [hz] at ha
    split at ha
    · exact H7.out a ha
    · cases Z with
      | none => simp at ha
      | some a0 =>
        simp at ha
        subst ha
        have h9 := H7.out a0 rfl
        unfold Addr.add
        split <;> exact h9
set_option maxRecDepth 100000 in
set_option maxHeartbeats 1000000 in
theorem take_no (g m p n : Nat) (b : Nat → Nat) (T : Value) (cl : Int) (w : World) (h : GdS g m p b T cl w) (hn : m < p + n) (hn2 : n ≤ 1000000) :
    Calls Try.prog 34 #[.pointer (some ⟨g, 0, none⟩), .int .i64 (n : Nat)] w fun e w' => PanE 2 e ∧ w' = w := by
  obtain ⟨h1, h2, Z, cz, h3, h4, h5, h6, h7, h8⟩ := h
  obtain ⟨r, hr⟩ : ∃ r, r = m - p := ⟨_, rfl⟩
  rw [← hr] at h3 h4 h8
  have c0 := hp_cell (j := 0) h3 rfl
  have t1 : decide (n ≤ r) = false := by simp; omega
  have t2 : decide ((n : Int) ≤ (r : Int)) = false := by simp; omega
  clear h3 h8 h6 h7 hr
  go_enter Try.func34, Try.ntmps34
  go_wp2_with fail
  refine (gmust_no 2 _).mono ?_
  rintro e w1 ⟨hp, rfl⟩
  obtain rfl := hp
  go_wp2_with fail
  exact ⟨rfl, rfl, rfl⟩
end Go.Proofs.Ytkjlejkcedemlaa

namespace Go.Proofs.Ytkjlejkcedemlaa
set_option maxRecDepth 100000
set_option linter.unusedVariables false
open Go.ChangeShapes Go.WideShapes Go.ChangeAt Go.RowKit

theorem and128z (x : Nat) (hx : x < 256) : (bits .and .u8 (x : Int) 128 == 0) = decide (x / 128 ≠ 1) := by
  have h := u8_and_nat x 128 hx (by omega)
  rw [show ((128 : Nat) : Int) = 128 from rfl] at h
  rw [h]
  have k : ∀ y : Fin 256, ((((y.val &&& 128 : Nat) : Int)) == 0) = decide (y.val / 128 ≠ 1) := by decide
  exact k ⟨x, hx⟩
theorem colours_no (g : Nat) (fl : Nat) (hfl : fl < 256) (h : fl / 128 ≠ 1) (V : Value) (w : World) :
    Calls Try.prog 38 #[.pointer (some ⟨g, 0, none⟩), .int .u8 (fl : Nat), V] w fun e w' => e = .returned V ∧ w = w' := by
  have f1 := and128z fl hfl
  rw [decide_eq_true h] at f1
  go_enter Try.func38, Try.ntmps38
  go_wp2
  go_ret
  exact ⟨rfl, rfl⟩
set_option maxRecDepth 100000 in
theorem colours_yes (g m p fl N : Nat) (hN : N = 2 ^ (fl % 8 + 1)) (b : Nat → Nat) (T V : Value) (cl : Int) (hfl : fl < 256) (hf : fl / 128 = 1) (w : World) (h : GdS g m p b T cl w) (hsm : m ≤ 1000000) :
    Calls Try.prog 38 #[.pointer (some ⟨g, 0, none⟩), .int .u8 (fl : Nat), V] w fun e w' => (p + 3 * N ≤ m ∧ ∃ Z cz, e = .returned (.slice Z (3 * N) cz) ∧ SlG g p (3 * N) b Z cz w' ∧ GdS g m (p + 3 * N) b T cl w' ∧ Chg [g] w w') ∨ (m < p + 3 * N ∧ PanE 2 e ∧ w' = w) := by
  have f1 := and128z fl hfl
  rw [decide_eq_false (by omega)] at f1
  have hN1 : N ≤ 256 := by
    rw [hN]
    exact Nat.le_trans (Nat.pow_le_pow_right (by omega) (show fl % 8 + 1 ≤ 8 by omega)) (by decide)
  have hN2 : (2 : Int) * 2 ^ (fl % 8) = (N : Int) := by rw [hN, Nat.pow_succ]; simp; omega
  have hN3 : wrap64 ((2 : Int) * 2 ^ (fl % 8)) = (N : Int) := by rw [hN2]; exact IntWalk.wrap64_in _ (by omega)
  have HN := Lib.hid hN
  clear hN hN2
  go_enter Try.func38, Try.ntmps38
  go_wp2_with fail
  rw [show (3 * (N : Int)) = ((3 * N : Nat) : Int) by simp]
  clear hN3 f1
  by_cases hp : p + 3 * N ≤ m
  · refine (take_yes g m p (3 * N) b T cl w h hp hsm).mono ?_
    rintro e w1 ⟨Z, cz, rfl, h1, h2, h3⟩
    have H := Lib.hid (And.intro h1 (And.intro h2 h3))
    clear h1 h2 h3
    go_wp2_with fail
    go_ret
    exact .inl ⟨hp, Z, cz, rfl, H.out⟩
  · refine (take_no g m p (3 * N) b T cl w h (by omega) (by omega)).mono ?_
    rintro e w1 ⟨hpe, rfl⟩
    obtain rfl := hpe
    go_wp2_with fail
    exact ⟨rfl, .inr ⟨by omega, rfl, rfl⟩⟩
set_option maxRecDepth 100000 in
set_option maxHeartbeats 1000000 in
theorem pieces_g (g m p : Nat) (b : Nat → Nat) (hbt : ∀ i, b i < 256) (T : Value) (cl : Int) (w : World) (h : GdS g m p b T cl w) (hsm : m ≤ 1000000) (U : List Nat × Nat × Nat) (hU : U = unV (fun i => b (p + i)) (m - p)) :
    Calls Try.prog 45 #[.pointer (some ⟨g, 0, none⟩)] w fun e w' => (U.2.2 = 0 ∧ ∃ A cap, e = .returned (.slice A U.1.length cap) ∧ NewB w.heap.size w' U.1.length A cap (gz U.1) ∧ GdS g m (p + U.2.1) b T cl w' ∧ Chg [g] w w') ∨ (U.2.2 ≠ 0 ∧ PanE (U.2.2 : Nat) e ∧ Below w.heap.size w w') := by
  have h0 := h
  obtain ⟨h1, h2, Z, cz, h3, h4, h5, h6, h7, h8⟩ := h
  have c0 := hp_cell (j := 0) h3 rfl
  have hu2 := un_used (fun i => b (p + i)) (m - p)
  have H0 := Lib.hid h0
  have HU := Lib.hid hU
  have hun := (unb_prog Z (m - p) cz (fun i => b (p + i)) (fun i => hbt _) h4 h5 h6 (by omega) w h8)
  rw [← hU] at hu2 hun
  clear h3 h6 h7 h8 h0 hU
  go_enter Try.func45, Try.ntmps45
  go_wp2_with fail
  refine hun.mono ?_
  clear hun
  obtain ⟨U1, U2, U3⟩ := U
  dsimp only at hu2 ⊢
  rintro e w1 ⟨A, cap, rfl, hN, hB⟩
  have HN := Lib.hid hN
  have HB := Lib.hid hB
  have HG := Lib.hid (H0.out.below hB)
  clear hN hB c0
  by_cases d : U3 = 0
  · subst d
    go_wp2_with fail
    refine (gmust_yes 0 _).mono ?_
    rintro e w2 ⟨rfl, rfl⟩
    go_wp2_with fail
    refine (take_yes g m p U2 b T cl _ HG.out (by omega) hsm).mono ?_
    rintro e w3 ⟨Z3, cz3, rfl, _, hG3, hC3⟩
    have HG3 := Lib.hid hG3
    have HC3 := Lib.hid hC3
    clear hG3 hC3
    go_wp2_with fail
    go_ret
    refine ⟨A, cap, rfl, ⟨HN.out.le, HN.out.max, HN.out.nil, fun hn => ?_, HN.out.far, fun a ha => Nat.lt_of_lt_of_le (HN.out.lt a ha) HC3.out.size, HN.out.form⟩, HG3.out, (show Chg [g] w w1 from Chg.of_below HB.out).trans HC3.out⟩
    obtain ⟨bk, off, rfl, hlt, hcl⟩ := HN.out.byt hn
    have hfar := HN.out.far _ rfl
    refine ⟨bk, off, rfl, Nat.lt_of_lt_of_le hlt HC3.out.size, fun j hj => ?_⟩
    have hblk := HC3.out.block bk hlt (by simp; exact fun e => by have : w.heap.size ≤ bk := hfar; omega)
    have := hcl j hj
    unfold World.cell? at this ⊢
    rw [hblk]
    exact this
  · have t1 : ((U3 : Int) == 0) = false := by simp; omega
    go_wp2_with fail
    refine (gmust_no (U3 : Nat) _).mono ?_
    rintro e w2 ⟨hp, rfl⟩
    obtain rfl := hp
    go_wp2_with fail
    exact ⟨rfl, rfl, HB.out⟩
theorem upV8 (x : Nat) (hx : x < 256) : upV (x : Int) 8 = (x : Int) * 257 := by
  have h : upB (x : Int) 8 = true := by simp [upB]; omega
  rw [upV, h]
  simp
theorem sample_g (x : Nat) (hx : x < 256) (w : World) :
    Calls Try.prog 57 #[.int .u8 (x : Nat)] w fun e w' => e = .returned (.int .u16 ((x * 257 : Nat) : Int)) ∧ w' = w := by
  go_enter Try.func57, Try.ntmps57
  go_wp2_with fail
  refine (up9 (x : Int) 8 (by omega) (by omega) _).mono ?_
  rintro e w1 ⟨rfl, rfl⟩
  rw [upV8 x hx]
  go_wp2_with fail
  go_ret
  exact ⟨by simp, rfl⟩
/-- The colour of a place of a table at q. -/
def tabP (b : Nat → Nat) (q k : Nat) : P4 := (b (q + 3 * k) * 257, b (q + 3 * k + 1) * 257, b (q + 3 * k + 2) * 257, 65535)
set_option maxRecDepth 100000 in
set_option maxHeartbeats 1000000 in
theorem pixel_no (k : Nat) (N : Nat) (Z : Option Addr) (cz : Nat) (w : World) (hk : N ≤ k) (hk2 : k < 256) :
    Calls Try.prog 48 #[.slice Z (3 * N) cz, .int .u8 (k : Nat)] w fun e w' => PanE 4 e ∧ Below w.heap.size w w' := by
  have hB := Lib.hid ((Below.refl _ w).alloc (Nat.le_refl _) (.cells #[.int .u16 0, .int .u16 0, .int .u16 0, .int .u16 0] 47))
  have t1 : decide ((3 : Int) * (k : Int) < 3 * (N : Int)) = false := by simp; omega
  have t3 : decide (k < N) = false := by simp; omega
  go_enter Try.func48, Try.ntmps48
  go_wp2_with fail
  refine (gmust_no 4 _).mono ?_
  rintro e w1 ⟨hp, rfl⟩
  obtain rfl := hp
  go_wp2_with fail
  exact ⟨rfl, rfl, hB.out⟩
set_option maxRecDepth 100000 in
set_option maxHeartbeats 1000000 in
theorem pixel_yes (g q N k : Nat) (b : Nat → Nat) (hbt : ∀ i, b i < 256) (Z : Option Addr) (cz : Nat) (w : World) (h : SlG g q (3 * N) b Z cz w) (hk : k < N) (hk2 : k < 256) (hN : N ≤ 256) :
    Calls Try.prog 48 #[.slice Z (3 * N) cz, .int .u8 (k : Nat)] w fun e w' => e = .returned (.agg #[.int .u16 ((tabP b q k).1 : Nat), .int .u16 ((tabP b q k).2.1 : Nat), .int .u16 ((tabP b q k).2.2.1 : Nat), .int .u16 ((tabP b q k).2.2.2 : Nat)]) ∧ Below w.heap.size w w' := by
  obtain ⟨h1, h2, h3, h4⟩ := h
  obtain ⟨bk, of, rfl, hlt, hcl⟩ := h4 (by omega)
  have hB := (Below.refl _ w).alloc (Nat.le_refl _) (.cells #[.int .u16 0, .int .u16 0, .int .u16 0, .int .u16 0] 47)
  have hX := hp_new0 w (.cells #[.int .u16 0, .int .u16 0, .int .u16 0, .int .u16 0] 47)
  have hcw : ∀ j, j < 3 * N → (w.alloc (.cells #[.int .u16 0, .int .u16 0, .int .u16 0, .int .u16 0] 47)).cell? ⟨bk, of + j, none⟩ = some (.int .u8 (b (q + j) : Nat)) := fun j hj => (hB.cell (p := ⟨bk, of + j, none⟩) hlt).trans (hcl j hj)
  have c0 := hcw (3 * k) (by omega)
  have c1 := hcw (3 * k + 1) (by omega)
  have c2 := hcw (3 * k + 2) (by omega)
  have hb0 := hbt (q + 3 * k)
  have hb1 := hbt (q + 3 * k + 1)
  have hb2 := hbt (q + 3 * k + 2)
  rw [show q + (3 * k + 1) = q + 3 * k + 1 by omega] at c1
  rw [show q + (3 * k + 2) = q + 3 * k + 2 by omega] at c2
  unfold tabP
  obtain ⟨x, hx⟩ : ∃ x, x = b (q + 3 * k) := ⟨_, rfl⟩
  obtain ⟨y, hy⟩ : ∃ x, x = b (q + 3 * k + 1) := ⟨_, rfl⟩
  obtain ⟨z, hz⟩ : ∃ x, x = b (q + 3 * k + 2) := ⟨_, rfl⟩
  rw [← hx] at c0 hb0
  rw [← hy] at c1 hb1
  rw [← hz] at c2 hb2
  rw [← hx, ← hy, ← hz]
  have HB := Lib.hid hB
  have HX := Lib.hid hX
  clear hx hy hz hcw hcl h4 hB hX
  have t1 : decide ((3 : Int) * (k : Int) < 3 * (N : Int)) = true := by simp; omega
  have t2 : decide ((3 : Int) * (k : Int) < ((3 * N : Nat) : Int)) = true := by simp; omega
  have t3 : decide (k < N) = true := by simp; omega
  have i1 : IntKind.i64.wrap (3 * (k : Int) + 1) = 3 * (k : Int) + 1 := IntWalk.i64_in _ (by omega)
  have i2 : IntKind.i64.wrap (3 * (k : Int) + 2) = 3 * (k : Int) + 2 := IntWalk.i64_in _ (by omega)
  have n0 : (3 * (k : Int)).toNat = 3 * k := by omega
  have n1 : (3 * (k : Int) + 1).toNat = 3 * k + 1 := by omega
  have n2 : (3 * (k : Int) + 2).toNat = 3 * k + 2 := by omega
  have m0 : (0 : Int) ≤ 3 * (k : Int) := by omega
  have m1 : (0 : Int) ≤ 3 * (k : Int) + 1 := by omega
  have m2 : (0 : Int) ≤ 3 * (k : Int) + 2 := by omega
  have u0 : (3 : Int) * (k : Int) < 3 * (N : Int) := by omega
  have u1 : (3 : Int) * (k : Int) + 1 < 3 * (N : Int) := by omega
  have u2 : (3 : Int) * (k : Int) + 2 < 3 * (N : Int) := by omega
  go_enter Try.func48, Try.ntmps48
  go_wp2_with fail
  refine (gmust_yes 4 _).mono ?_
  rintro e w1 ⟨rfl, rfl⟩
  go_upto_region 3 with fail
  generalize w.alloc (.cells #[.int .u16 0, .int .u16 0, .int .u16 0, .int .u16 0] 47) = w1 at *
  go_still_tail 18, (by kernel_rfl)
  still_call (sample_g x hb0 _)
  repeat still_step
  still_call (sample_g y hb1 _)
  repeat still_step
  still_call (sample_g z hb2 _)
  repeat still_step
  try refine wpStill_nil ?_
  change wpList _ _ _ _ _ w1.drew
  have hX1 : w1.drew.heap[w.heap.size]? = some (.cells #[.int .u16 0, .int .u16 0, .int .u16 0, .int .u16 0] 47 (0, 0)) := HX.out
  have p0 := hp_cell (j := 0) hX1 rfl
  have p1 := hp_cell (j := 1) hX1 rfl
  have p2 := hp_cell (j := 2) hX1 rfl
  have p3 := hp_cell (j := 3) hX1 rfl
  have pf := hp_froz hX1
  have p0' := hp_cell (j := 0) HX.out rfl
  have p1' := hp_cell (j := 1) HX.out rfl
  have p2' := hp_cell (j := 2) HX.out rfl
  have p3' := hp_cell (j := 3) HX.out rfl
  have pf' := hp_froz HX.out
  clear hX1 c0 c1 c2
  clear t1 t2 t3 i1 i2 n0 n1 n2 m0 m1 m2 u0 u1 u2
  go_wp2_with fail
  refine bodyPost_ret (v := .agg #[.int .u16 ((x : Int) * 257), .int .u16 ((y : Int) * 257), .int .u16 ((z : Int) * 257), .int .u16 65535]) (by rw [results_cell1 rfl]; go_simp) rfl ?_
  exact ⟨by simp, ((((HB.out.setCell (p := ⟨w.heap.size, 0, none⟩) (Nat.le_refl _) _).setCell (p := ⟨w.heap.size, 1, none⟩) (Nat.le_refl _) _).setCell (p := ⟨w.heap.size, 2, none⟩) (Nat.le_refl _) _).setCell (p := ⟨w.heap.size, 3, none⟩) (Nat.le_refl _) _).drew⟩
end Go.Proofs.Ytkjlejkcedemlaa

namespace Go.Proofs.Ytkjlejkcedemlaa
set_option maxRecDepth 100000
set_option linter.unusedVariables false
open Go.ChangeShapes Go.WideShapes Go.ChangeAt Go.RowKit

/-- The four pairs, and what is made. -/
def RwP (w0 : World) (s3 : Value) (l : List Nat) (w : World) : Prop :=
  w.heap[w0.heap.size]? = some (.cells #[.int .i64 0, .int .i64 8, .int .i64 4, .int .i64 8, .int .i64 2, .int .i64 4, .int .i64 1, .int .i64 2] 64 (0, 0)) ∧
  w.ownsRow (w0.heap.size + 1) 3 1 s3 l.length (cellsI l) ∧ Below w0.heap.size w0 w ∧ w0.heap.size + 1 ≤ w.heap.size
theorem pair_cell {k : Nat} (hk : k < 4) : (#[Value.int .i64 0, .int .i64 8, .int .i64 4, .int .i64 8, .int .i64 2, .int .i64 4, .int .i64 1, .int .i64 2] : Array Value)[k * 2]? = some (.int .i64 (fK k : Nat)) ∧ (#[Value.int .i64 0, .int .i64 8, .int .i64 4, .int .i64 8, .int .i64 2, .int .i64 4, .int .i64 1, .int .i64 2] : Array Value)[k * 2 + 1]? = some (.int .i64 (sK k : Nat)) := by
  match k, hk with
  | 0, _ => exact ⟨rfl, rfl⟩
  | 1, _ => exact ⟨rfl, rfl⟩
  | 2, _ => exact ⟨rfl, rfl⟩
  | 3, _ => exact ⟨rfl, rfl⟩
theorem row_ne {w : World} {base : Nat} {v : Value} {l : List Nat} {B : Nat} {cs : Array Value} (h : w.ownsRow base 3 1 v l.length (cellsI l)) (hB : w.heap[B]? = some (.cells cs 64 (0, 0))) : ∀ r, v.ownBlock = some r → r ≠ B := by
  intro r hr
  rcases h.2 with ⟨rfl, _⟩ | ⟨g, cap, cur, rfl, hb, hg, _⟩
  · cases hr
  · injection hr with hr
    subst hr
    intro e
    subst e
    rw [hg] at hB
    injection hB with hB
    injection hB with _ h2
    exact absurd h2 (by decide)
theorem RwP.app {w0 : World} {s3 : Value} {l : List Nat} {w : World} (hR : RwP w0 s3 l w) (hl : l.length ≤ 100000) (x : Nat) {B : Nat} {cs : Array Value} (hB : w.heap[B]? = some (.cells cs 64 (0, 0))) :
    ∃ v' W1, (Builtin.append_ #[34, 34] 34 #[s3, .slice (some ⟨w.heap.size, 0, none⟩) 1 1]).run Try.prog (w.alloc (.cells #[.int .i64 (x : Nat)] 3)) = .ok v' W1 ∧ RwP w0 v' (l ++ [x]) W1 ∧ W1.heap[B]? = some (.cells cs 64 (0, 0)) := by
  obtain ⟨h1, h3, h4, h5⟩ := hR
  have hl1 := lt_heap h1
  have hlB := lt_heap hB
  have hne := row_ne h3 hB
  obtain ⟨v', W1, hr, ho, hg⟩ := app_int (x := x) (B := w.heap.size) (h3.alloc (.cells #[.int .i64 (x : Nat)] 3)) (hp_cell (j := 0) (hp_new0 w _) rfl) hl (by simp; omega)
  have hge : ∀ r, s3.ownBlock = some r → w0.heap.size + 1 ≤ r := fun r hr => (h3.lt r hr).1
  refine ⟨v', W1, hr, ⟨(hg.block _ (by simp; omega) (fun e => by have := hge _ e.symm; omega)).trans (hp_alloc _ h1), ho, bel_grown (h4.alloc h4.size _) hg (fun r hr => by have := hge r hr; omega) (by have := h4.size; simp; omega), ?_⟩, (hg.block _ (by simp; omega) (fun e => hne _ e.symm rfl)).trans (hp_alloc _ hB)⟩
  have := hg.size
  simp at this
  omega
set_option maxHeartbeats 2000000 in
theorem rows_prog (h : Nat) (h1 : 1 ≤ h) (h2 : h ≤ 256) (w : World) :
    Calls Try.prog 12 #[.int .i64 (h : Nat)] w fun e w' => ∃ v, e = .returned v ∧ w'.ownsRow w.heap.size 3 1 v (rowsG h).length (cellsI (rowsG h)) ∧ Below w.heap.size w w' := by
  have H0 : Hid (RwP w (.slice none 0 0) (preG h 0) (w.alloc (.cells #[.int .i64 0, .int .i64 8, .int .i64 4, .int .i64 8, .int .i64 2, .int .i64 4, .int .i64 1, .int .i64 2] 64))) :=
    Lib.hid ⟨hp_new0 _ _, World.ownsRow_nil _ _ _ _, (Below.refl _ w).alloc (Nat.le_refl _) _, by simp⟩
  have d1 : decide ((h : Int) < 1) = false := by simp; omega
  have d2 : decide ((256 : Int) < (h : Int)) = false := by simp; omega
  go_enter Try.func12, Try.ntmps12
  go_wp2_with fail
  go_loopw [3, 19] (fun s3 s6 wr => ∃ (k : Nat) (v3 : Value), v3 = s3 ∧ k ≤ 4 ∧ s6 = .int .i64 (k : Nat) ∧ RwP w v3 (preG h k) wr) (fun _ s6 _ => 4 - (intOf s6).toNat)
  case atStart => exact ⟨0, _, rfl, by omega, rfl, H0.out⟩
  case round =>
    clear H0
    obtain ⟨k, v3, hv3, hk, rfl, hR⟩ := hrel
    subst hv3
    have hpl := preG_len h k h2
    by_cases hlt : k < 4
    · have t4 : decide (k < 4) = true := by simp; omega
      have t4' : decide ((k : Int) < 4) = true := by simp; omega
      have cf := hp_cell hR.1 (pair_cell hlt).1
      have cs := hp_cell hR.1 (pair_cell hlt).2
      have HK := Lib.hid (fK_le k)
      have hf := HK.out.1
      have hs := HK.out.2
      obtain ⟨F, hF⟩ : ∃ F, F = fK k := ⟨_, rfl⟩
      obtain ⟨S, hS⟩ : ∃ S, S = sK k := ⟨_, rfl⟩
      rw [← hF] at cf hf
      rw [← hS] at cs hs
      have HF := Lib.hid hF
      have HS := Lib.hid hS
      obtain ⟨B, hBe⟩ : ∃ B, B = wr.heap.size := ⟨_, rfl⟩
      have H1 : Hid (RwP w v3 (preG h k ++ stepJ h k 0) (wr.alloc (.cells #[.int .i64 (F : Nat), .int .i64 (S : Nat)] 64)) ∧ (wr.alloc (.cells #[.int .i64 (F : Nat), .int .i64 (S : Nat)] 64)).heap[wr.heap.size]? = some (.cells #[.int .i64 (F : Nat), .int .i64 (S : Nat)] 64 (0, 0))) :=
        Lib.hid ⟨⟨hp_alloc _ hR.1, by simpa [stepJ] using hR.2.1.alloc _, hR.2.2.1.alloc hR.2.2.1.size _, by have := hR.2.2.2; simp; omega⟩, hp_new0 _ _⟩
      have hki : (0 : Int) ≤ (k : Int) := by omega
      clear hR hF hS
      go_wp2_with fail
      generalize wr.alloc (.cells #[.int .i64 (F : Nat), .int .i64 (S : Nat)] 64) = w5 at *
      rw [← hBe] at H1 ⊢
      clear hBe
      go_loopw [3, 6] (fun s3 s7 wx => ∃ (j : Nat) (v4 : Value), v4 = s3 ∧ s7 = .int .i64 ((F + S * j : Nat) : Int) ∧ (j = 0 ∨ F + S * (j - 1) < h) ∧ RwP w v4 (preG h k ++ stepJ h k j) wx ∧ wx.heap[B]? = some (.cells #[.int .i64 (F : Nat), .int .i64 (S : Nat)] 64 (0, 0))) (fun _ s7 _ => h + 20 - (intOf s7).toNat)
      case atStart => exact ⟨0, _, rfl, by simp, .inl rfl, H1.out.1, H1.out.2⟩
      case round =>
        clear H1 cf cs
        obtain ⟨j, v4, hv4, rfl, hj, hR, hBx⟩ := hrel
        subst hv4
        have hjl : j ≤ 256 := by
          rcases hj with hz | hz
          · omega
          · have h9 : 2 * (j - 1) ≤ S * (j - 1) := Nat.mul_le_mul_right _ hs.1
            omega
        have hyb : F + S * j ≤ 300 := by
          rcases hj with hz | hz
          · subst hz; omega
          · rcases Nat.eq_zero_or_pos j with h0 | h0
            · subst h0; omega
            · obtain ⟨i, rfl⟩ : ∃ i, j = i + 1 := ⟨j - 1, by omega⟩
              rw [Nat.mul_add, Nat.mul_one]
              rw [Nat.add_sub_cancel] at hz
              omega
        obtain ⟨y, hy⟩ : ∃ y, y = F + S * j := ⟨_, rfl⟩
        rw [← hy] at hyb ⊢
        have hsl : (preG h k ++ stepJ h k j).length ≤ 100000 := by
          rw [List.length_append]
          have : (stepJ h k j).length = j := by simp [stepJ]
          omega
        by_cases hlt2 : y < h
        · obtain ⟨v', W1, hr, hR2, hB2⟩ := hR.app hsl y hBx
          have cs2 := hp_cell (j := 1) hB2 rfl
          rw [List.append_assoc, hy, HF.out, HS.out, ← stepJ_succ] at hR2
          have HR2 := Lib.hid hR2
          have HB2 := Lib.hid hB2
          have HRUN := Lib.hid hr
          have hnx : y + S = F + S * (j + 1) := by rw [hy, Nat.mul_add]; omega
          have HNX := Lib.hid hnx
          have HLT : Hid (F + S * (j + 1 - 1) < h) := Lib.hid (by rw [Nat.add_sub_cancel, ← hy]; exact hlt2)
          clear hR hBx hR2 hB2 hr hy hnx hsl hj
          go_wp2_with (at_builtin; refine wpList_app rfl _ _ 34 rfl _ _ _ _ rfl rfl HRUN.out ?_)
          go_roundw
          case rel => exact ⟨j + 1, _, rfl, by rw [← HNX.out]; go_num, .inr HLT.out, HR2.out, HB2.out⟩
          case measure => simp [intOf]; omega
        · have hall := stepJ_all h k j (by rw [← HF.out, ← HS.out, ← hy]; exact hlt2) (by rw [← HF.out, ← HS.out]; exact hj)
          rw [hall, ← preG_succ] at hR
          have HR := Lib.hid hR
          clear hR hall hy hj hsl
          go_wp2_with fail
          go_roundw
          case rel => exact ⟨k + 1, _, rfl, by omega, by go_num, HR.out⟩
          case measure => simp [intOf]; omega
    · obtain rfl : k = 4 := by omega
      obtain ⟨g1, g3, g4, g5⟩ := hR
      rw [← rowsG_eq] at g3
      have HB := Lib.hid g4
      have hown := own_le2 (b' := w.heap.size) (by omega) g3
      have HG := Lib.hid hown
      clear g1 g3 g4 hown
      go_wp2_with fail
      go_ret
      exact ⟨_, rfl, HG.out, HB.out⟩
end Go.Proofs.Ytkjlejkcedemlaa
