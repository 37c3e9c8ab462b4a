/- The reference's plainest writer of GIF's codes. -/
import Derived.Test.YtioghgnngdcicaaLzPl
import Derived.Test.YtioghgnngdcicaaPkO
namespace Go.Proofs.Ytioghgnngdcicaa
set_option linter.unusedVariables false
open Go.ChangeShapes Go.WideShapes Go.ChangeAt Go.RowKit

/-- The reference's writer, made behind w0. -/
def PkR (w0 : World) (g : Nat) (l : List Nat) (ob : Option Nat) (w : World) : Prop := Pk g l false ob w ∧ Below w0.heap.size w0 w ∧ w0.heap.size ≤ g ∧ ∀ k, ob = some k → w0.heap.size ≤ k
theorem pkR_put {w0 : World} {g : Nat} {l : List Nat} {ob : Option Nat} {w : World} (h : PkR w0 g l ob w) (hl : l.length ≤ 500000) (x : Int) (hx : In64 x) (n : Nat) (hn : n ≤ 60) :
    Calls Try.prog 21 #[.pointer (some ⟨g, 0, none⟩), .int .i64 x, .int .i64 (n : Nat)] w fun e w' => e = .returned (.tuple #[]) ∧ ∃ ob', PkR w0 g (l ++ numB false x n) ob' w' := by
  obtain ⟨h1, h2, h3, h4⟩ := h
  refine (put_pk g l false ob hl x hx n hn w h1).mono ?_
  rintro e w' ⟨rfl, hC, ob', hP, hN⟩
  refine ⟨rfl, ob', hP, h2.trans (hC.below h2.size fun k hk => ?_), h3, fun k hk => ?_⟩
  · rcases List.mem_cons.1 hk with rfl | hk
    · exact h3
    · exact h4 k (by simpa using hk)
  · rcases hN with rfl | ⟨q, rfl, hq⟩
    · exact h4 k hk
    · injection hk with hk
      subst hk
      exact Nat.le_trans h2.size hq
theorem PkR.below {w0 : World} {g : Nat} {l : List Nat} {ob : Option Nat} {w w' : World} (h : PkR w0 g l ob w) (hB : Below w.heap.size w w') : PkR w0 g l ob w' :=
  ⟨h.1.chg (Chg.of_below (S := []) hB) (by simp) (fun _ _ => by simp), h.2.1.trans (hB.mono h.2.1.size), h.2.2⟩
theorem pkR_new (w0 w : World) (h : Below w0.heap.size w0 w) : PkR w0 w.heap.size [] none (w.alloc (.cells #[.slice none 0 0, .bool false] 46)) :=
  ⟨⟨⟨.slice none 0 0, hp_new0 _ _, World.ownsRow_nil _ _ _ _, rfl⟩, by simp, by simp⟩, h.alloc h.size _, h.size, fun k hk => by cases hk⟩
theorem pkR_out {w0 : World} {g : Nat} {l : List Nat} {ob : Option Nat} {w : World} (h : PkR w0 g l ob w) (hl : l.length ≤ 500000) :
    Calls Try.prog 22 #[.pointer (some ⟨g, 0, none⟩)] w fun e w' => ∃ A' cap', e = .returned (.slice A' (pack false l).1.length cap') ∧ NewB w.heap.size w' (pack false l).1.length A' cap' (gz (pack false l).1) ∧ Below w.heap.size w w' :=
  out_pk g l false ob hl w h.1
theorem in64_nat {k : Nat} (h : k ≤ 1000000) : In64 (k : Int) := by unfold In64; omega
set_option maxRecDepth 100000 in
set_option maxHeartbeats 2000000 in
theorem write_plain (A : Option Addr) (cap : Nat) (l : List Nat) (hl : ∀ v ∈ l, v < 256) (sz : Nat) (h1 : 2 ≤ sz) (h2 : sz ≤ 8) (hn : l.length ≤ 20000) (w : World) (hP : Byt w A l.length (gz l)) :
    Calls Try.prog 20 #[.slice A l.length cap, .int .i64 (sz : Nat)] w fun e w' => ∃ A' cap', e = .returned (.slice A' (pack false (cb (sz + 1) ((plC (2 ^ sz) l).2 ++ [2 ^ sz + 1]))).1.length cap') ∧ NewB w.heap.size w' (pack false (cb (sz + 1) ((plC (2 ^ sz) l).2 ++ [2 ^ sz + 1]))).1.length A' cap' (gz (pack false (cb (sz + 1) ((plC (2 ^ sz) l).2 ++ [2 ^ sz + 1]))).1) ∧ Below w.heap.size w w' := by
  obtain ⟨hc4, hc256⟩ := cl_bound h1 h2
  obtain ⟨cl, hcl⟩ : ∃ cl, cl = 2 ^ sz := ⟨_, rfl⟩
  have hwp : wrap64 ((2 : Int) ^ sz) = (cl : Int) := by rw [wrap_pow sz (by omega), hcl]
  rw [← hcl] at hc4 hc256 ⊢
  have hlen : ∀ j, j ≤ l.length → (plC cl (l.take j)).2.length ≤ 2 * j + 1 ∧ (plC cl (l.take j)).1 ≤ j := by
    intro j
    induction j with
    | zero => intro _; simp [plC]
    | succ j ih =>
      intro hj
      have hget : l[j]? = some l[j] := List.getElem?_eq_getElem (by omega)
      have htk : l.take (j + 1) = l.take j ++ [l[j]] := by rw [List.take_add_one, hget]; rfl
      have := ih (by omega)
      rw [htk, plC_snoc]
      unfold stC
      split
      · simp; omega
      · simp; omega
  have HLN := Lib.hid hlen
  have HPW := Lib.hid hwp
  have HL := Lib.hid hl
  have H0 : Hid (∀ ob wr, PkR w w.heap.size ([] ++ numB false ((cl : Nat) : Int) (sz + 1)) ob wr → PkR w w.heap.size (cb (sz + 1) (plC cl (l.take 0)).2) ob wr) := Lib.hid fun ob wr h => by simpa [plC, cb] using h
  obtain ⟨n, hnn⟩ : ∃ n, n = l.length := ⟨_, rfl⟩
  have HNN := Lib.hid hnn
  have hn' : n ≤ 20000 := by omega
  rw [← hnn] at hP ⊢
  have hcl64 := in64_nat (k := cl) (by omega)
  have hcl65 := in64_nat (k := cl + 1) (by omega)
  have HC1 := Lib.hid hcl64
  have HC2 := Lib.hid hcl65
  clear hcl hlen hl hnn hn hcl64 hcl65
  go_enter Try.func20, Try.ntmps20
  go_wp2_with fail
  refine (pkR_put (pkR_new w _ (Below.refl _ _)) (by simp) (cl : Nat) HC1.out (sz + 1) (by omega)).mono ?_
  rintro e w1 ⟨rfl, ob, hK⟩
  have HK0 := Lib.hid (H0.out _ _ hK)
  clear hK H0
  go_wp2_with fail
  go_loopw [7, 8] (fun s7 s8 wr => ∃ (i : Nat) (ob : Option Nat), i ≤ n ∧ s8 = .int .i64 (i : Nat) ∧ s7 = .int .i64 ((plC cl (l.take i)).1 : Nat) ∧ PkR w w.heap.size (cb (sz + 1) (plC cl (l.take i)).2) ob wr) (fun _ s8 _ => n - (intOf s8).toNat)
  case atStart => exact ⟨0, ob, by omega, rfl, by simp [plC], HK0.out⟩
  case round =>
    clear HK0
    obtain ⟨i, ob, hi, rfl, rfl, hK⟩ := hrel
    obtain ⟨g1, g2⟩ := HLN.out i (by rw [← HNN.out]; exact hi)
    have hbits : (cb (sz + 1) (plC cl (l.take i)).2).length ≤ 400000 := by
      rw [cb_len]
      have : (plC cl (l.take i)).2.length * (sz + 1) ≤ 40001 * 9 := Nat.mul_le_mul (by omega) (by omega)
      omega
    by_cases hlt : i < n
    · have hget : l[i]? = some l[i] := List.getElem?_eq_getElem (by rw [← HNN.out]; exact hlt)
      have htk : l.take (i + 1) = l.take i ++ [l[i]] := by rw [List.take_add_one, hget]; rfl
      have hx : gz l i = l[i] := by unfold gz; rw [hget]; rfl
      have hxl : l[i] < 256 := HL.out _ (List.getElem_mem _)
      have hst : plC cl (l.take (i + 1)) = stC cl (plC cl (l.take i)) l[i] := by rw [htk, plC_snoc]
      obtain ⟨bk, off, rfl, hbk, hc⟩ := hP.below hK.2.1 (by omega)
      have hci := hc i hlt
      rw [hx] at hci
      have hbkw : bk < w.heap.size := by
        obtain ⟨bk', off', he, hlt', _⟩ := hP (by omega)
        injection he with he
        injection he with e1 e2
        subst e1
        exact hlt'
      generalize l[i] = x at *
      obtain ⟨q, hq⟩ : ∃ q, q = plC cl (l.take i) := ⟨_, rfl⟩
      rw [← hq] at hK hbits hst g1 g2 ⊢
      obtain ⟨m, cs⟩ := q
      dsimp only at hK hbits hst g1 g2 ⊢
      have HST := Lib.hid hst
      have HK := Lib.hid hK
      have hx64 := in64_nat (k := x) (by omega)
      have HX := Lib.hid hx64
      clear hst hK hq hx64 hc htk hget hx
      by_cases hm : m = cl - 2
      · have t2 : ((m : Int) == (cl : Int) - 2) = true := by simp; omega
        have hst2 : Hid (stC cl (m, cs) x = (1, cs ++ [cl] ++ [x])) := Lib.hid (by unfold stC; rw [if_pos hm])
        go_wp2_with fail
        refine (pkR_put HK.out (by omega) (cl : Nat) HC1.out (sz + 1) (by omega)).mono ?_
        rintro e w2 ⟨rfl, ob2, hK2⟩
        rw [← cb_snoc] at hK2
        have hci2 := (hK2.2.1.cell (p := ⟨bk, off + i, none⟩) hbkw).trans ((HK.out.2.1.cell (p := ⟨bk, off + i, none⟩) hbkw).symm.trans hci)
        have hb2 : (cb (sz + 1) (cs ++ [cl])).length ≤ 500000 := by rw [cb_snoc, List.length_append, numB_len]; omega
        have HK2 := Lib.hid hK2
        clear hK2 hci
        go_wp2_with fail
        refine (pkR_put HK2.out hb2 (x : Nat) HX.out (sz + 1) (by omega)).mono ?_
        rintro e w3 ⟨rfl, ob3, hK3⟩
        rw [← cb_snoc] at hK3
        have HK3 := Lib.hid hK3
        clear hK3 hci2
        go_wp2_with fail
        go_roundw
        case rel => exact ⟨i + 1, ob3, by omega, by go_num, by rw [HST.out, hst2.out]; rfl, by rw [HST.out, hst2.out]; exact HK3.out⟩
        case measure => simp [intOf]; omega
      · have t2 : ((m : Int) == (cl : Int) - 2) = false := by simp; omega
        have hst2 : Hid (stC cl (m, cs) x = (m + 1, cs ++ [x])) := Lib.hid (by unfold stC; rw [if_neg hm])
        go_wp2_with fail
        refine (pkR_put HK.out (by omega) (x : Nat) HX.out (sz + 1) (by omega)).mono ?_
        rintro e w3 ⟨rfl, ob3, hK3⟩
        rw [← cb_snoc] at hK3
        have HK3 := Lib.hid hK3
        clear hK3 hci
        go_wp2_with fail
        go_roundw
        case rel => exact ⟨i + 1, ob3, by omega, by go_num, by rw [HST.out, hst2.out]; go_num, by rw [HST.out, hst2.out]; exact HK3.out⟩
        case measure => simp [intOf]; omega
    · obtain rfl : i = n := by omega
      rw [show l.take i = l by rw [HNN.out, List.take_length]] at hK hbits ⊢
      obtain ⟨q, hq⟩ : ∃ q, q = plC cl l := ⟨_, rfl⟩
      rw [← hq] at hK hbits ⊢
      obtain ⟨m, cs⟩ := q
      dsimp only at hK hbits ⊢
      have HK := Lib.hid hK
      have HQ := Lib.hid hq
      clear hq hK
      go_wp2_with fail
      refine (pkR_put HK.out (by omega) ((cl + 1 : Nat) : Int) HC2.out (sz + 1) (by omega)).mono ?_
      rintro e w2 ⟨rfl, ob2, hK2⟩
      rw [← cb_snoc] at hK2
      have hb2 : (cb (sz + 1) (cs ++ [cl + 1])).length ≤ 500000 := by rw [cb_snoc, List.length_append, numB_len]; omega
      have HK2 := Lib.hid hK2
      clear hK2
      go_wp2_with fail
      refine (pkR_out HK2.out hb2).mono ?_
      rintro e w3 ⟨A3, cap3, rfl, hN3, hB3⟩
      have HN3 : Hid (NewB w.heap.size w3 _ A3 cap3 _) := Lib.hid (⟨hN3.le, hN3.max, hN3.nil, hN3.byt, (fun a ha => Nat.le_trans HK2.out.2.1.size (hN3.far a ha)), hN3.lt, hN3.form⟩ : NewB w.heap.size w3 _ A3 cap3 _)
      have HB3 := Lib.hid (HK2.out.2.1.trans (hB3.mono HK2.out.2.1.size))
      clear hN3 hB3
      go_wp2
      go_ret
      rw [← HQ.out]
      exact ⟨A3, cap3, rfl, HN3.out, HB3.out⟩
end Go.Proofs.Ytioghgnngdcicaa
