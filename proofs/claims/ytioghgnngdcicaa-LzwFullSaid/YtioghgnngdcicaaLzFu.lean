/- LzwFull: the walk. -/
import Derived.Test.YtioghgnngdcicaaLzWl
import Derived.Test.YtioghgnngdcicaaLzL2
import Derived.Test.YtioghgnngdcicaaLzBp
namespace Go.Proofs.Ytioghgnngdcicaa
set_option linter.unusedVariables false
open Go.ChangeShapes Go.WideShapes Go.ChangeAt Go.RowKit

/-- The plainest codes of bytes. -/
def plZ (l : List Nat) : List Nat := (pack false (cb 9 ((plC 256 l).2 ++ [257]))).1
theorem plZ_len (l : List Nat) (h256 : ∀ v ∈ l, v < 256) (hn : l.length ≤ 20000) : (plZ l).length ≤ 100000 := by
  have := (plC_ok (cl := 256) (by omega) l h256).2.2.2.2
  unfold plZ
  rw [pack_len, cb_len, List.length_append, List.length_singleton]
  omega
theorem write_pl8 (A : Option Addr) (cap : Nat) (l : List Nat) (hl : ∀ v ∈ l, v < 256) (hn : l.length ≤ 20000) (w : World) (hP : Byt w A l.length (gz l)) :
    Calls Try.prog 20 #[.slice A l.length cap, .int .i64 8] w fun e w' => ∃ A' cap', e = .returned (.slice A' (plZ l).length cap') ∧ NewB w.heap.size w' (plZ l).length A' cap' (gz (plZ l)) ∧ Below w.heap.size w w' :=
  write_plain A cap l hl 8 (by omega) (by omega) hn w hP
theorem read_pl8 (A : Option Addr) (cap : Nat) (l : List Nat) (hl : ∀ v ∈ l, v < 256) (hlen : l.length ≤ 20000) (hn : (plZ l).length ≤ cap) (hmax : cap ≤ maxLen) (hz : A = none → cap = 0) (w : World) (hP : Byt w A (plZ l).length (gz (plZ l))) :
    Calls Try.prog 12 #[.slice A (plZ l).length cap, .int .i64 8, .int .i64 (l.length : Nat)] w fun e w' => ∃ A' cap', e = .returned (.tuple #[.slice A' l.length cap', .int .i64 0]) ∧ NewB w.heap.size w' l.length A' cap' (gz l) ∧ Below w.heap.size w w' := by
  have hpl := plC_ok (cl := 256) (by omega) l hl
  have hcl := plain_all (cl := 256) (sz := 8) (most := l.length) (by omega) (by omega) rfl (plC 256 l).2 hpl.1 (by rw [hpl.2.2.2.1]; exact Nat.le_refl _)
  rw [hpl.2.2.2.1] at hcl
  have hcl' : lzwV (gz (plZ l)) (plZ l).length 8 (l.length : Nat) = (l, 0) := hcl
  have hzl := plZ_len l hl hlen
  have := read_lzw A (plZ l).length cap (gz (plZ l)) (gz_lt (pack_lt' false _ (cb_lt _ _))) hn hmax hz (by omega) 8 (l.length : Nat) (by omega) w hP
  rw [hcl'] at this
  exact this
/-- What the loop that draws has. -/
def FuR (w0 : World) (s5 s6 s7 : Value) (l : List Nat) (w : World) : Prop := s7 = .int .i64 (l.length : Nat) ∧ (∃ x : Int, 0 ≤ x ∧ x ≤ 4294967295 ∧ s5 = .int .u32 x) ∧ w.ownsRow w0.heap.size 5 1 s6 l.length (cellsB l) ∧ Below w0.heap.size w0 w ∧ ∀ v ∈ l, v < 256
set_option maxRecDepth 1000000 in
set_option maxHeartbeats 4000000 in
theorem full_walk (seed : Int) (hs0 : 0 ≤ seed) (hs1 : seed ≤ 4294967295) (many : Nat) (hmany : many < 65536) (w : World) :
    Calls Try.prog 5 #[.int .u32 seed, .int .u16 (many : Nat)] w fun e w' => e = .returned (.bool true) ∧ Below w.heap.size w w' := by
  go_enter Try.func5, Try.ntmps5
  go_wp2_with fail
  refine (awake7 _).mono ?_
  rintro e w1 ⟨rfl, hB1⟩
  have HB1 := Lib.hid hB1
  clear hB1
  have hM : 4000 + many % 9000 ≤ 13000 := by omega
  obtain ⟨M, hMM⟩ : ∃ M, M = 4000 + many % 9000 := ⟨_, rfl⟩
  rw [← hMM] at hM
  have HMM := Lib.hid hMM
  clear hMM
  have H0 : Hid (FuR w1 (.int .u32 seed) (.slice none 0 0) (.int .i64 0) [] w1) := Lib.hid ⟨rfl, ⟨seed, hs0, hs1, rfl⟩, World.ownsRow_nil _ _ _ _, Below.refl _ _, by simp⟩
  go_wp2_with fail
  go_loopw [5, 6, 7] (fun s5 s6 s7 wr => ∃ l, FuR w1 s5 s6 s7 l wr ∧ l.length ≤ M) (fun _ _ s7 _ => M - (intOf s7).toNat)
  case atStart => exact ⟨[], H0.out, by simp⟩
  case round =>
    clear H0
    obtain ⟨l, ⟨rfl, ⟨x, hx0, hx1, rfl⟩, hown, hBr, h256⟩, hlM⟩ := hrel
    obtain ⟨-, Ar, cr, rfl, p1, p2, -⟩ := Sl.of_own hown
    have HOWN := Lib.hid hown
    have HBR := Lib.hid hBr
    have H256 := Lib.hid h256
    clear hown hBr h256
    by_cases hlt : l.length < M
    · have t1 : decide ((l.length : Int) < 4000 + (many : Int) % 9000) = true := by have := HMM.out; simp; omega
      obtain ⟨y, hy⟩ : ∃ y : Int, (x * 1664525 + 1013904223) % 4294967296 = y := ⟨_, rfl⟩
      have hy0 : 0 ≤ y := by omega
      have hy1 : y ≤ 4294967295 := by omega
      obtain ⟨v, hv⟩ : ∃ v : Nat, y / 16777216 = (v : Int) := ⟨(y / 16777216).toNat, by omega⟩
      have hv2 : v < 256 := by omega
      have H1 := HOWN.out.alloc (.cells #[.int .u8 (v : Nat)] 5)
      obtain ⟨v6, w2, hrun, ho2, hg2⟩ := app_byteL (x := v) (B := wr.heap.size) H1 (hp_cell (j := 0) (hp_new0 wr _) rfl) (by omega) (by have := HBR.out.size; simp; omega)
      have hB2 := bel_grown (HBR.out.alloc HBR.out.size (.cells #[.int .u8 (v : Nat)] 5)) hg2 (fun r hr => (HOWN.out.lt r hr).1) (by have := HBR.out.size; simp; omega)
      have HNEW : Hid (FuR w1 (.int .u32 y) v6 (.int .i64 ((l.length + 1 : Nat) : Int)) (l ++ [v]) w2) := Lib.hid ⟨by simp, ⟨y, hy0, hy1, rfl⟩, ho2, hB2, fun u hu => by
        rcases List.mem_append.1 hu with h | h
        · exact H256.out u h
        · simp at h; omega⟩
      have HRUN := Lib.hid hrun
      have HL2 : Hid ((l ++ [v]).length ≤ M) := Lib.hid (by rw [List.length_append, List.length_singleton]; omega)
      clear hrun ho2 hg2 hB2 H1 hv2
      go_wp2_with (at_builtin; refine wpList_app rfl _ _ 22 rfl _ _ _ _ rfl rfl HRUN.out ?_)
      go_roundw
      case rel => exact ⟨l ++ [v], HNEW.out, HL2.out⟩
      case measure => simp [intOf]; omega
    · have t1 : decide ((l.length : Int) < 4000 + (many : Int) % 9000) = false := by have := HMM.out; simp; omega
      obtain ⟨A2, c2, he, q1, q2, q3, q4⟩ := byt_of_row HOWN.out
      injection he with e1 e2 e3
      subst e1 e3
      have hfit : fitsB ((8 : Nat) : Int) l.length (gz l) = true := decide_eq_true ⟨by omega, fun i hi => by
        have := gz_lt (fun v hv => H256.out v hv) (l := l) i
        simpa using this⟩
      have hlt256 : ∀ i, gz l i < 256 := gz_lt (fun v hv => H256.out v hv)
      have hzl := size_E 8 (by omega) (by omega) l (fun v hv => H256.out v hv)
      have HFI := Lib.hid hfit
      have HLT := Lib.hid hlt256
      have HBr := Lib.hid (HB1.out.trans (HBR.out.mono HB1.out.size))
      have HQ3 := Lib.hid q3
      clear hfit hlt256 q3 e2
      go_wp2_with fail
      refine (write_fit Ar cr l HLT.out 8 (by omega) _ q4 HFI.out).mono ?_
      rintro e w3 ⟨A3, cap3, rfl, hN3, hB3⟩
      have hP3 := q4.below hB3
      have HB3 := Lib.hid (HBr.out.trans (hB3.mono HBr.out.size))
      have HN3 := Lib.hid hN3
      clear hB3 hN3 q4
      go_wp2_with fail
      refine (ref_back A3 cap3 l 8 HFI.out (by omega) HN3.out.le HN3.out.max HN3.out.nil _ HN3.out.byt).mono ?_
      rintro e w4 ⟨A4, cap4, rfl, hN4, hB4⟩
      have hP4 := hP3.below hB4
      have HB4 := Lib.hid (HB3.out.trans (hB4.mono HB3.out.size))
      have HN4 := Lib.hid hN4
      clear hB4 hN4 hP3 HN3 HB3
      go_wp2_with fail
      refine (write_pl8 Ar cr l H256.out (by omega) _ hP4).mono ?_
      rintro e w5 ⟨A5, cap5, rfl, hN5, hB5⟩
      have hP5 := hP4.below hB5
      have HB5 := Lib.hid (HB4.out.trans (hB5.mono HB4.out.size))
      have HN45 := Lib.hid (HN4.out.chgB hB5)
      have HN5 := Lib.hid hN5
      clear hB5 hN5 hP4 HN4 HB4
      go_wp2_with fail
      refine (read_pl8 A5 cap5 l H256.out (by omega) HN5.out.le HN5.out.max HN5.out.nil _ HN5.out.byt).mono ?_
      rintro e w6 ⟨A6, cap6, rfl, hN6, hB6⟩
      have g1 := run_str (cap := cap4) (HN45.out.chgB hB6).byt
      have g2 := run_str (cap := cap6) hN6.byt
      have g4 := run_str (cap := cr) (hP5.below hB6)
      have g3 := ba_beq (strB l.length (gz l))
      have HB6 := Lib.hid (HB5.out.trans (hB6.mono HB5.out.size))
      obtain ⟨zl, hzz⟩ : ∃ zl, zl = (lzwE 8 l).length := ⟨_, rfl⟩
      rw [← hzz] at hzl ⊢
      obtain ⟨m, hmm⟩ : ∃ m, m = l.length := ⟨_, rfl⟩
      rw [← hmm] at hzl g1 g2 g4 g3 hlM ⊢
      clear hzz hmm hP5 hB6 hN6 HN45 HN5 HB5
      have v1 : decide ((zl : Int) ≤ 2 * (m : Int) + (m : Int) / 4 + 16) = true := by simp; omega
      go_wp2
      go_ret
      exact ⟨rfl, HB6.out⟩
end Go.Proofs.Ytioghgnngdcicaa
