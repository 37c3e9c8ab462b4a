/- LzwBack: the walk. -/
import Derived.Test.YtioghgnngdcicaaLzBk
namespace Go.Proofs.Ytioghgnngdcicaa
set_option linter.unusedVariables false
open Go.ChangeShapes Go.WideShapes Go.ChangeAt Go.RowKit

/-- The row that is made of b again and again. -/
def AllR (w0 : World) (l : List Nat) (s7 s8 : Value) (k : Nat) (w : World) : Prop := s8 = .int .i64 (k : Nat) ∧ w.ownsRow w0.heap.size 5 1 s7 (rep k l).length (cellsB (rep k l)) ∧ Below w0.heap.size w0 w ∧ (rep k l).length ≤ 30400
/-- What the first loop leaves. -/
def AllE (w0 : World) (l : List Nat) (s7 : Value) (w : World) : Prop := ∃ (all : List Nat) (Ar : Option Addr) (cr : Nat), s7 = .slice Ar all.length cr ∧ all.length ≤ cr ∧ cr ≤ maxLen ∧ (Ar = none → cr = 0) ∧ Byt w Ar all.length (gz all) ∧ Below w0.heap.size w0 w ∧ all.length ≤ 30400 ∧ ∃ k, 0 < k ∧ all = rep k l
theorem allE_of {w0 : World} {l : List Nat} {s7 s8 : Value} {k : Nat} {w : World} (h : AllR w0 l s7 s8 k w) (hk : 0 < k) : AllE w0 l s7 w := by
  obtain ⟨_, hown, hB, hlen⟩ := h
  obtain ⟨A, c, rfl, q1, q2, q3, q4⟩ := byt_of_row (o := rep k l) hown
  exact ⟨rep k l, A, c, rfl, q1, q2, q3, q4, hB, hlen, k, hk, rfl⟩
/-- Do so many bytes go into codes of such a size? -/
def fitsB (size : Int) (n : Nat) (b : Nat → Nat) : Bool := decide ((2 ≤ size ∧ size ≤ 8) ∧ ∀ i, i < n → b i < 2 ^ size.toNat)
theorem fitsB_zero (size : Int) (b : Nat → Nat) : fitsB size 0 b = decide (2 ≤ size ∧ size ≤ 8) := by
  unfold fitsB
  simp
theorem fitsB_step {size : Int} {i : Nat} {b : Nat → Nat} (h : fitsB size i b = true) : fitsB size (i + 1) b = decide (b i < 2 ^ size.toNat) := by
  unfold fitsB at h ⊢
  have h' := of_decide_eq_true h
  by_cases hb : b i < 2 ^ size.toNat
  · rw [decide_eq_true hb]
    refine decide_eq_true ⟨h'.1, fun j hj => ?_⟩
    by_cases e : j = i
    · subst e; exact hb
    · exact h'.2 j (by omega)
  · rw [decide_eq_false hb]
    exact decide_eq_false fun ⟨_, h2⟩ => hb (h2 i (by omega))
theorem fitsB_no {size : Int} {i n : Nat} {b : Nat → Nat} (hi : i ≤ n) (h : fitsB size i b = false) : fitsB size n b = false := by
  unfold fitsB at h ⊢
  have h' := of_decide_eq_false h
  exact decide_eq_false fun ⟨h1, h2⟩ => h' ⟨h1, fun j hj => h2 j (by omega)⟩
theorem fitsB_yes {size : Int} {n : Nat} {b : Nat → Nat} (h : fitsB size n b = true) : (2 ≤ size ∧ size ≤ 8) ∧ ∀ i, i < n → b i < 2 ^ size.toNat := of_decide_eq_true h
theorem first_bad (b : Nat → Nat) (m n : Nat) (h : ¬ ∀ i, i < n → b i < m) : ∃ p, p < n ∧ (∀ i, i < p → b i < m) ∧ m ≤ b p := by
  induction n with
  | zero => exact absurd (fun i hi => absurd hi (by omega)) h
  | succ n ih =>
    by_cases hn : ∀ i, i < n → b i < m
    · refine ⟨n, by omega, hn, ?_⟩
      apply Nat.le_of_not_lt
      intro hb
      refine h fun i hi => ?_
      by_cases e : i = n
      · subst e; exact hb
      · exact hn i (by omega)
    · obtain ⟨p, hp, h1, h2⟩ := ih hn
      exact ⟨p, by omega, h1, h2⟩
theorem write_unfit (A : Option Addr) (n cap : Nat) (b : Nat → Nat) (hbt : ∀ i, b i < 256) (size : Int) (hn : n ≤ 2000000) (w : World) (hP : Byt w A n b) (h : fitsB size n b = false) :
    Calls Try.prog 19 #[.slice A n cap, .int .i64 size] w fun e w' => e = .returned (.tuple #[.slice none 0 0, .int .i64 1]) ∧ Hid (w = w') := by
  by_cases hs : 2 ≤ size ∧ size ≤ 8
  · obtain ⟨sz, rfl⟩ : ∃ z : Nat, size = z := Int.eq_ofNat_of_zero_le (by omega)
    have h' := of_decide_eq_false h
    obtain ⟨p, hp, h1, h2⟩ := first_bad b (2 ^ sz) n (fun hh => h' ⟨hs, by simpa using hh⟩)
    exact write_bad A n cap b hbt sz (by omega) (by omega) hn w hP p hp h1 h2
  · exact (write_no A n cap size hs w).mono fun e w' ⟨h1, h2⟩ => ⟨h1, Lib.hid h2⟩
theorem fits_rep {size : Int} {l : List Nat} {b : Nat → Nat} {k : Nat} (hk : 0 < k) (hb : ∀ i, i < l.length → gz l i = b i) : fitsB size (rep k l).length (gz (rep k l)) = fitsB size l.length b := by
  by_cases h : fitsB size l.length b = true
  · rw [h]
    obtain ⟨h1, h2⟩ := fitsB_yes h
    refine decide_eq_true ⟨h1, fun i hi => ?_⟩
    have hm : gz (rep k l) i ∈ rep k l := by
      unfold gz
      rw [List.getElem?_eq_getElem hi]
      exact List.getElem_mem hi
    obtain ⟨j, hj, he⟩ := List.mem_iff_getElem.1 (rep_mem hm)
    have := h2 j hj
    rw [← hb j hj] at this
    unfold gz at this
    rw [List.getElem?_eq_getElem hj] at this
    simp only [Option.getD_some] at this
    rwa [he] at this
  · have h0 : fitsB size l.length b = false := by simpa using h
    rw [h0]
    have h' := of_decide_eq_false h0
    refine decide_eq_false fun ⟨h1, h2⟩ => h' ⟨h1, fun i hi => ?_⟩
    have hlen : i < (rep k l).length := by
      rw [rep_len]
      exact Nat.lt_of_lt_of_le hi (Nat.le_mul_of_pos_left _ hk)
    have := h2 i hlen
    rw [← hb i hi]
    unfold gz at this ⊢
    rwa [rep_get hk l hi] at this
theorem write_fit (A : Option Addr) (cap : Nat) (all : List Nat) (h256 : ∀ i, gz all i < 256) (sz : Nat) (hn : all.length ≤ 100000) (w : World) (hP : Byt w A all.length (gz all)) (h : fitsB (sz : Nat) all.length (gz all) = true) :
    Calls Try.prog 19 #[.slice A all.length cap, .int .i64 (sz : Nat)] w fun e w' => ∃ A' cap', e = .returned (.tuple #[.slice A' (lzwE sz all).length cap', .int .i64 0]) ∧ NewB w.heap.size w' (lzwE sz all).length A' cap' (gz (lzwE sz all)) ∧ Below w.heap.size w w' := by
  obtain ⟨hs, hall⟩ := fitsB_yes h
  have := write_any A all.length cap (gz all) h256 sz (by omega) (by omega) hn w hP (by simpa using hall)
  rwa [map_gz] at this
theorem all_lt {all : List Nat} {sz : Nat} (h : fitsB (sz : Nat) all.length (gz all) = true) : ∀ v ∈ all, v < 2 ^ sz := fun v hv => by
  obtain ⟨hs, hall⟩ := fitsB_yes h
  obtain ⟨j, hj, rfl⟩ := List.mem_iff_getElem.1 hv
  have := hall j hj
  unfold gz at this
  rw [List.getElem?_eq_getElem hj] at this
  simpa using this
theorem ref_back (A : Option Addr) (cap : Nat) (all : List Nat) (sz : Nat) (hfit : fitsB (sz : Nat) all.length (gz all) = true) (hlen : all.length ≤ 100000) (hn : (lzwE sz all).length ≤ cap) (hmax : cap ≤ maxLen) (hz : A = none → cap = 0) (w : World) (hP : Byt w A (lzwE sz all).length (gz (lzwE sz all))) :
    Calls Try.prog 13 #[.slice A (lzwE sz all).length cap, .int .i64 (sz : Nat), .int .i64 (all.length : Nat)] w fun e w' => ∃ A' cap', e = .returned (.tuple #[.slice A' all.length cap', .int .i64 0]) ∧ NewB w.heap.size w' all.length A' cap' (gz all) ∧ Below w.heap.size w w' := by
  obtain ⟨hs, hall⟩ := fitsB_yes hfit
  have hb := back_E sz (by omega) (by omega) all (all_lt hfit) all.length (Nat.le_refl _)
  have hsz := size_E sz (by omega) (by omega) all (fun v hv => Nat.lt_of_lt_of_le (all_lt hfit v hv) (cl_bound (by omega) (by omega)).2)
  have := read_ref A (lzwE sz all).length cap (gz (lzwE sz all)) (lzwE_lt sz all) hn hmax hz (by omega) (sz : Nat) (all.length : Nat) (by omega) w hP
  rw [hb] at this
  exact this
theorem prog_back (A : Option Addr) (cap : Nat) (all : List Nat) (sz : Nat) (hfit : fitsB (sz : Nat) all.length (gz all) = true) (hlen : all.length ≤ 100000) (hn : (lzwE sz all).length ≤ cap) (hmax : cap ≤ maxLen) (hz : A = none → cap = 0) (w : World) (hP : Byt w A (lzwE sz all).length (gz (lzwE sz all))) :
    Calls Try.prog 12 #[.slice A (lzwE sz all).length cap, .int .i64 (sz : Nat), .int .i64 (all.length : Nat)] w fun e w' => ∃ A' cap', e = .returned (.tuple #[.slice A' all.length cap', .int .i64 0]) ∧ NewB w.heap.size w' all.length A' cap' (gz all) ∧ Below w.heap.size w w' := by
  obtain ⟨hs, hall⟩ := fitsB_yes hfit
  have hb := back_E sz (by omega) (by omega) all (all_lt hfit) all.length (Nat.le_refl _)
  have hsz := size_E sz (by omega) (by omega) all (fun v hv => Nat.lt_of_lt_of_le (all_lt hfit v hv) (cl_bound (by omega) (by omega)).2)
  have := read_lzw A (lzwE sz all).length cap (gz (lzwE sz all)) (lzwE_lt sz all) hn hmax hz (by omega) (sz : Nat) (all.length : Nat) (by omega) w hP
  rw [hb] at this
  exact this
set_option maxRecDepth 1000000 in
set_option maxHeartbeats 4000000 in
theorem back_walk (A : Option Addr) (n cap : Nat) (b : Nat → Nat) (hbt : ∀ i, b i < 256) (h1 : n ≤ cap) (h2 : cap ≤ maxLen) (h3 : A = none → cap = 0) (size : Int) (hs : In64 size) (many : Nat) (hmany : many < 65536) (w : World) (hP : Byt w A n b) :
    Calls Try.prog 9 #[.slice A n cap, .int .i64 size, .int .u16 (many : Nat)] w fun e w' => e = .returned (.bool true) ∧ Below w.heap.size w w' := by
  obtain ⟨i0, hi, hz0, hz1, hz2⟩ := info_parts info8
  go_enter Try.func9, Try.ntmps9
  go_wp2_with fail
  refine (awake7 _).mono ?_
  rintro e w1 ⟨rfl, hB1⟩
  have hP1 := hP.below hB1
  have HB1 := Lib.hid hB1
  clear hB1
  have HSZ := Lib.hid hs
  clear hs
  by_cases c1 : 300 < n
  · have d1 : decide (300 < n) = true := by simp; omega
    go_wp2
    go_ret
    exact ⟨rfl, HB1.out⟩
  have d1 : decide (300 < n) = false := by simp; omega
  obtain ⟨l, hl⟩ : ∃ l, l = (List.range n).map b := ⟨_, rfl⟩
  have hln : l.length = n := by rw [hl]; simp
  have hPl : Byt w1 A l.length (gz l) := by rw [hl]; exact byt_gz hP1
  have hl256 : ∀ v ∈ l, v < 256 := fun v hv => by rw [hl] at hv; obtain ⟨i, _, rfl⟩ := List.mem_map.1 hv; exact hbt i
  have hlg : ∀ i, i < n → gz l i = b i := fun i hi => by rw [hl]; simp [gz, hi]
  have HL := Lib.hid hl
  have HLN := Lib.hid hln
  have HPL := Lib.hid hPl
  have HL2 := Lib.hid hl256
  have HLG := Lib.hid hlg
  obtain ⟨M, hMM⟩ : ∃ M, M = many % 200 := ⟨_, rfl⟩
  have hM : 1 + M ≤ 200 := by omega
  have HMM := Lib.hid hMM
  have H0 : Hid (AllR w1 l (.slice none 0 0) (.int .i64 0) 0 w1) := Lib.hid ⟨rfl, World.ownsRow_nil _ _ _ _, Below.refl _ _, by simp [rep]⟩
  clear hl hln hPl hl256 hlg hMM hP
  go_upto_block 0 with fail
  go_cut [7] (fun s7 wx => AllE w1 l s7 wx)
  case first =>
    go_wp2_with fail
    go_loopw [7, 8] (fun s7 s8 wr => ∃ k : Nat, k ≤ 1 + M ∧ AllR w1 l s7 s8 k wr) (fun _ s8 _ => 1 + M - (intOf s8).toNat)
    case atStart => exact ⟨0, by omega, H0.out⟩
    case round =>
      obtain ⟨k, hk, hAR⟩ := hrel
      have HAR := Lib.hid hAR
      obtain ⟨rfl, hown, hBr, hlen⟩ := hAR
      obtain ⟨-, Ar, cr, rfl, p1, p2, -⟩ := Sl.of_own hown
      obtain ⟨R, hR⟩ : ∃ R, R = (rep k l).length := ⟨_, rfl⟩
      rw [← hR] at hown p1 hlen HAR ⊢
      have HR := Lib.hid hR
      clear hR
      by_cases hgo : k < 1 + M ∧ R < 30000
      · obtain ⟨g1, g2⟩ := hgo
        have t1 : decide (k < 1 + M) = true := by simp; omega
        have t2 : decide ((k : Int) < 1 + (many : Int) % 200) = true := by have := HMM.out; simp; omega
        have t3 : decide (R < 30000) = true := by simp; omega
        obtain ⟨v', w2, hrun, ho2, hg2, hat2⟩ := run_app (P := Try.prog) (w := wr) w1.heap.size 22 22 5 i0 (.int .u8 0) 1 1 Try.underlying22 hi hz0 hz1 hz2 rfl (by omega) (.slice Ar R cr) R (cellsB (rep k l)) hown
          A n cap (cellsB l) h3 (by rw [cellsB_len, HLN.out]; omega) (fun h => by
            have h9 := HPL.out.below hBr
            have h10 := byt_news h9 (by rw [HLN.out]; exact h)
            rwa [cells8_gz] at h10) (cellsB_one l) (by unfold maxLen; omega) (by omega) (by have := hBr.size; omega)
        have hB2 := bel_grown hBr hg2 (fun r hr => (hown.lt r hr).1) (by have := hBr.size; omega)
        have hcb : cellsB (rep k l) ++ cellsB l = cellsB (rep (k + 1) l) := by rw [rep_succ]; simp [cellsB]
        rw [hcb] at ho2
        have hlen2 : (rep (k + 1) l).length = R + n := by rw [rep_succ, List.length_append, ← HR.out, HLN.out]
        replace ho2 := own_len hlen2.symm ho2
        have HNEW : Hid (AllR w1 l v' (.int .i64 ((k + 1 : Nat) : Int)) (k + 1) w2) := Lib.hid ⟨rfl, ho2, hB2, by omega⟩
        have HRUN := Lib.hid hrun
        clear hrun ho2 hg2 hat2 hB2 hcb hlen2 hown
        go_wp2_with (at_builtin; refine wpList_app rfl _ _ 22 rfl _ _ _ _ rfl rfl HRUN.out ?_)
        go_roundw
        case rel => exact ⟨k + 1, by omega, HNEW.out⟩
        case measure => simp [intOf]; omega
      · have hk1 : 0 < k := by
          apply Nat.pos_of_ne_zero
          intro h
          subst h
          have : R = 0 := by rw [HR.out]; simp [rep]
          omega
        have HE : Hid (AllE w1 l (.slice Ar R cr) wr) := Lib.hid (allE_of HAR.out hk1)
        have hRt2 : (decide ((k : Int) < 1 + (many : Int) % 200) = true ∧ (30000 : Int) ≤ (R : Int)) ∨ decide ((k : Int) < 1 + (many : Int) % 200) = false := by
          have := HMM.out
          by_cases h : k < 1 + M
          · exact .inl ⟨by simp; omega, by omega⟩
          · exact .inr (by simp; omega)
        clear hgo hown hBr HR HAR
        rcases hRt2 with ⟨t2, t3⟩ | t2
        all_goals
          go_wp2_with fail
          go_meet
          exact HE.out
  case rest =>
    obtain ⟨all, Ar, cr, rfl, p1, p2, p3, hPr, hBr, hlen, k, hk, hall⟩ := hcut
    have hP2 := hP1.below hBr
    have HBr := Lib.hid (HB1.out.trans (hBr.mono HB1.out.size))
    have hfa : fitsB size all.length (gz all) = fitsB size n b := by
      rw [hall, fits_rep hk (fun i hi => HLG.out i (by rw [← HLN.out]; exact hi)), HLN.out]
    have ha256 : ∀ i, gz all i < 256 := gz_lt fun v hv => by rw [hall] at hv; exact HL2.out v (rep_mem hv)
    have HFA := Lib.hid hfa
    have HA2 := Lib.hid ha256
    have HP3 := Lib.hid p3
    clear hfa ha256 hall hBr HL HLN HPL HL2 HLG HMM H0 HB1 hP1 p3 hM
    go_upto_region 10 with fail
    go_cut [9] (fun s9 wx => s9 = .bool (fitsB size 0 b) ∧ Hid (wx = wc))
    case first =>
      have hsz := HSZ.out
      unfold In64 at hsz
      by_cases u1 : 2 ≤ size
      · by_cases u2 : size ≤ 8
        · have HG : Hid (decide (2 ≤ size ∧ size ≤ 8) = true) := Lib.hid (decide_eq_true ⟨u1, u2⟩)
          have u3 : decide (2 ≤ size) = true := by simp; omega
          have u4 : decide (size ≤ 8) = true := by simp; omega
          go_wp2_with fail
          go_meet
          exact ⟨by rw [fitsB_zero, HG.out], Lib.hid rfl⟩
        · have HG : Hid (decide (2 ≤ size ∧ size ≤ 8) = false) := Lib.hid (decide_eq_false fun h => u2 h.2)
          have u3 : decide (2 ≤ size) = true := by simp; omega
          have u4 : decide (size ≤ 8) = false := by simp; omega
          go_wp2_with fail
          go_meet
          exact ⟨by rw [fitsB_zero, HG.out], Lib.hid rfl⟩
      · have HG : Hid (decide (2 ≤ size ∧ size ≤ 8) = false) := Lib.hid (decide_eq_false fun h => u1 h.1)
        have u3 : decide (2 ≤ size) = false := by simp; omega
        go_wp2_with fail
        go_meet
        exact ⟨by rw [fitsB_zero, HG.out], Lib.hid rfl⟩
    case rest =>
    obtain ⟨rfl, hwx⟩ := hcut
    have hwx' := hwx.out
    subst hwx'
    clear hwx
    go_upto_block 2 with fail
    go_cut [9] (fun s9 wx => s9 = .bool (fitsB size n b) ∧ Hid (wx = wc))
    case first =>
      obtain ⟨f0, hf0⟩ : ∃ f0, f0 = fitsB size 0 b := ⟨_, rfl⟩
      rw [← hf0]
      have HF0 := Lib.hid hf0
      clear hf0
      go_wp2_with fail
      go_loop [9, 10] (fun s9 s10 => ∃ i : Nat, i ≤ n ∧ s10 = .int .i64 (i : Nat) ∧ ∃ f, s9 = .bool f ∧ Hid (f = fitsB size i b)) (fun _ s10 => n - (intOf s10).toNat)
      case atStart => exact ⟨0, by omega, rfl, _, rfl, HF0⟩
      case round =>
        obtain ⟨i, hin, rfl, f, rfl, hf⟩ := hrel
        by_cases hlt : i < n
        · have t1 : decide (i < n) = true := by simp; omega
          cases f with
          | true =>
            obtain ⟨hr, -⟩ := fitsB_yes hf.out.symm
            obtain ⟨sz, rfl⟩ : ∃ z : Nat, size = z := Int.eq_ofNat_of_zero_le (by omega)
            have hz1' : 2 ≤ sz := by omega
            have hz2' : sz ≤ 8 := by omega
            have hc256 := cl_bound hz1' hz2'
            obtain ⟨cl, hcl⟩ : ∃ cl, cl = 2 ^ sz := ⟨_, rfl⟩
            rw [← hcl] at hc256
            have hwp : wrap64 ((2 : Int) ^ sz) = (cl : Int) := by rw [wrap_pow sz (by omega), hcl]
            obtain ⟨bk, off, rfl, hbk, hc⟩ := hP2 (by omega)
            have hci := hc i hlt
            have hst := fitsB_step hf.out.symm
            obtain ⟨f2, hf2⟩ : ∃ f2, f2 = fitsB (sz : Nat) (i + 1) b := ⟨_, rfl⟩
            rw [← hf2] at hst
            have hb256 := hbt i
            have hst2 : decide (b i < cl) = f2 := by
              rw [hst, hcl]
              simp
            have hst3 : decide (((b i : Nat) : Int) < (cl : Int)) = f2 := by
              rw [← hst2, decide_eq_decide]
              exact Int.ofNat_lt
            have HF2 := Lib.hid hf2
            generalize b i = x at *
            clear hst hf2 hc hr hcl
            go_wp2
            go_round
            case rel => exact ⟨i + 1, by omega, by go_num, f2, rfl, HF2⟩
            case measure => simp [intOf]; omega
          | false =>
            have HG : Hid (fitsB size n b = false) := Lib.hid (fitsB_no hin hf.out.symm)
            go_wp2_with fail
            go_meet
            exact ⟨by rw [HG.out], Lib.hid rfl⟩
        · obtain rfl : i = n := by omega
          go_wp2_with fail
          go_meet
          exact ⟨by rw [hf.out], Lib.hid rfl⟩
    case rest =>
      obtain ⟨rfl, hwx⟩ := hcut
      have hwx' := hwx.out
      subst hwx'
      clear hwx
      by_cases hfit : fitsB size n b = true
      · rw [hfit]
        obtain ⟨hr, -⟩ := fitsB_yes hfit
        obtain ⟨sz, rfl⟩ : ∃ z : Nat, size = z := Int.eq_ofNat_of_zero_le (by omega)
        have hz1' : 2 ≤ sz := by omega
        have hz2' : sz ≤ 8 := by omega
        have hfa : fitsB (sz : Nat) all.length (gz all) = true := by rw [HFA.out]; exact hfit
        have hzl := size_E sz hz1' hz2' all (fun v hv => Nat.lt_of_lt_of_le (all_lt hfa v hv) (cl_bound hz1' hz2').2)
        have HFI := Lib.hid hfa
        clear hr hfit hfa HFA HSZ hP2
        go_wp2_with fail
        refine (write_fit Ar cr all HA2.out sz (by omega) _ hPr HFI.out).mono ?_
        rintro e w3 ⟨A3, cap3, rfl, hN3, hB3⟩
        have hP3 := hPr.below hB3
        have HB3 := Lib.hid (HBr.out.trans (hB3.mono HBr.out.size))
        have HN3 := Lib.hid hN3
        clear hB3 hN3 hPr
        go_wp2_with fail
        refine (ref_back A3 cap3 all sz HFI.out (by omega) HN3.out.le HN3.out.max HN3.out.nil _ HN3.out.byt).mono ?_
        rintro e w4 ⟨A4, cap4, rfl, hN4, hB4⟩
        have hP4 := hP3.below hB4
        have HB4 := Lib.hid (HB3.out.trans (hB4.mono HB3.out.size))
        have HN34 := Lib.hid (HN3.out.chgB hB4)
        have HN4 := Lib.hid hN4
        clear hB4 hN4 hP3 HN3 HB3
        go_wp2_with fail
        refine (prog_back A3 cap3 all sz HFI.out (by omega) HN34.out.le HN34.out.max HN34.out.nil _ HN34.out.byt).mono ?_
        rintro e w5 ⟨A5, cap5, rfl, hN5, hB5⟩
        have hP5 := hP4.below hB5
        have HB5 := Lib.hid (HB4.out.trans (hB5.mono HB4.out.size))
        have HN45 := Lib.hid (HN4.out.chgB hB5)
        have HN5 := Lib.hid hN5
        clear hB5 hN5 hP4 HN4 HB4 HN34
        have g1 := run_str (cap := cap4) HN45.out.byt
        have g2 := run_str (cap := cap5) HN5.out.byt
        have g4 := run_str (cap := cr) hP5
        have g3 := ba_beq (strB all.length (gz all))
        obtain ⟨zl, hzz⟩ : ∃ zl, zl = (lzwE sz all).length := ⟨_, rfl⟩
        rw [← hzz] at hzl ⊢
        obtain ⟨m, hmm⟩ : ∃ m, m = all.length := ⟨_, rfl⟩
        rw [← hmm] at hzl hlen g1 g2 g4 g3 ⊢
        clear hzz hmm hP5
        have v1 : decide (zl ≤ 2 * m + m / 4 + 16) = true := by simp; omega
        have v2 : decide ((zl : Int) ≤ ((2 * m + m / 4 + 16 : Nat) : Int)) = true := by simp; omega
        go_wp2_with fail
        refine (most_any m (by omega) _).mono ?_
        rintro e w6 ⟨rfl, rfl⟩
        go_wp2_with fail
        refine (most_any m (by omega) _).mono ?_
        rintro e w6 ⟨rfl, rfl⟩
        go_wp2
        go_ret
        exact ⟨rfl, HB5.out⟩
      · have hf0 : fitsB size n b = false := by simpa using hfit
        rw [hf0]
        have hfa : fitsB size all.length (gz all) = false := by rw [HFA.out]; exact hf0
        have HFI := Lib.hid hfa
        clear hfa HFA HSZ hf0 hfit hP2
        go_wp2_with fail
        refine (write_unfit Ar all.length cr (gz all) HA2.out size (by omega) _ hPr HFI.out).mono ?_
        rintro e w3 ⟨rfl, hw3⟩
        have hw3' := hw3.out
        subst hw3'
        go_wp2
        go_ret
        exact ⟨rfl, HBr.out⟩
end Go.Proofs.Ytioghgnngdcicaa
