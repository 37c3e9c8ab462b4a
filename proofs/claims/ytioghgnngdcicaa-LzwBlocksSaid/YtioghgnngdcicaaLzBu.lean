/- Unblock, the program's and the document's. -/
import Derived.Test.YtioghgnngdcicaaLzBw
namespace Go.Proofs.Ytioghgnngdcicaa
set_option linter.unusedVariables false
open Go.ChangeShapes Go.WideShapes Go.ChangeAt Go.RowKit

/-- What Unblock's loop has. -/
def UnR (w0 : World) (b : Nat → Nat) (n : Nat) (r : List Nat × Nat × Nat) (s5 : Value) (out : List Nat) (at_ K : Nat) (w : World) : Prop :=
  w.ownsRow w0.heap.size 5 1 s5 out.length (cellsB out) ∧ Below w0.heap.size w0 w ∧ unF b n K at_ out = r ∧ at_ ≤ n ∧ out.length ≤ at_ ∧ n - at_ < K
theorem nilB (B : Nat) (w : World) : NewB B w ([] : List Nat).length none 0 (gz []) := ⟨Nat.le_refl _, by simp [maxLen], fun _ => rfl, fun h => absurd h (by simp), (fun a h => by cases h), (fun a h => by cases h), (fun a h => by cases h)⟩
/-- A piece of the bytes behind a row of one's own. -/
theorem app_cut {W w0 : World} {v : Value} {out : List Nat} {A : Option Addr} {n cap q m : Nat} {b : Nat → Nat} (h : W.ownsRow w0.heap.size 5 1 v out.length (cellsB out)) (hB : Below w0.heap.size w0 W) (ho : out.length ≤ 1000000) (hm : m ≤ 1000000) (hn : n ≤ cap) (hz : A = none → cap = 0) (hP : Byt w0 A n b) (hq : q + m ≤ n) :
    ∃ v2 W2, (Builtin.append_ #[22, 22] 22 #[v, .slice (if cap = q then A else A.map (·.add q)) m (cap - q)]).run Try.prog W = .ok v2 W2 ∧ W2.ownsRow w0.heap.size 5 1 v2 (out ++ (List.range m).map (fun i => b (q + i))).length (cellsB (out ++ (List.range m).map (fun i => b (q + i)))) ∧ Below w0.heap.size w0 W2 := by
  obtain ⟨i0, hi, hz0, hz1, hz2⟩ := info_parts info8
  have hP2 := (hP.below hB).from hn (q := q) (k := m) hq
  have hs := hB.size
  obtain ⟨v2, W2, r2, o2, g2, _⟩ := run_app (P := Try.prog) (w := W) w0.heap.size 22 22 5 i0 (.int .u8 0) 1 1 Try.underlying22 hi hz0 hz1 hz2 rfl (by omega) v out.length (cellsB out) h
    (if cap = q then A else A.map (·.add q)) m (cap - q) (cells8 m (fun i => b (q + i))) (nil_from hz) (by simp [cells8]) (byt_news hP2) (cells8_one _ _) (by unfold maxLen; omega) (by omega) (by omega)
  have e : cellsB out ++ cells8 m (fun i => b (q + i)) = cellsB (out ++ (List.range m).map (fun i => b (q + i))) := by simp [cellsB, cells8]
  rw [e] at o2
  exact ⟨v2, W2, r2, own_len (by simp) o2, bel_grown hB g2 (fun r hr => (h.lt r hr).1) hs⟩
set_option maxRecDepth 100000 in
set_option maxHeartbeats 2000000 in
theorem unb_prog (A : Option Addr) (n cap : Nat) (b : Nat → Nat) (hbt : ∀ i, b i < 256) (h1 : n ≤ cap) (h2 : cap ≤ maxLen) (h3 : A = none → cap = 0) (hn : n ≤ 100000) (w : World) (hP : Byt w A n b) :
    Calls Try.prog 25 #[.slice A n cap] w fun e w' => ∃ A' cap', e = .returned (.tuple #[.slice A' (unV b n).1.length cap', .int .i64 ((unV b n).2.1 : Nat), .int .i64 ((unV b n).2.2 : Nat)]) ∧ NewB w.heap.size w' (unV b n).1.length A' cap' (gz (unV b n).1) ∧ Below w.heap.size w w' := by
  obtain ⟨r, hr⟩ : ∃ r, r = unV b n := ⟨_, rfl⟩
  rw [← hr]
  have H0 : Hid (UnR w b n r (.slice none 0 0) [] 0 (n + 1) w) := Lib.hid ⟨World.ownsRow_nil _ _ _ _, Below.refl _ _, hr.symm, by omega, by simp, by omega⟩
  have H2 := Lib.hid h2
  have H3 := Lib.hid h3
  have HP := Lib.hid hP
  unfold maxLen at h2
  clear hr hP h3
  go_enter Try.func25, Try.ntmps25
  go_wp2_with fail
  go_loopw [5, 6] (fun s5 s6 wr => ∃ (out : List Nat) (at_ K : Nat), s6 = .int .i64 (at_ : Nat) ∧ UnR w b n r s5 out at_ K wr) (fun _ s6 _ => n - (intOf s6).toNat)
  case atStart => exact ⟨[], 0, n + 1, rfl, H0.out⟩
  case round =>
    clear H0
    obtain ⟨out, at_, K, rfl, hown, hB, heq, hat, hol, hK⟩ := hrel
    obtain ⟨-, Ao, co, rfl, p1, p2, -⟩ := Sl.of_own hown
    obtain ⟨K, rfl⟩ : ∃ j, K = j + 1 := ⟨K - 1, by omega⟩
    rw [unF] at heq
    by_cases c1 : n ≤ at_
    · rw [if_pos c1] at heq
      obtain rfl : at_ = n := by omega
      subst heq
      have HB := Lib.hid hB
      clear hown hB
      go_wp2
      go_ret3
      exact ⟨none, 0, rfl, nilB _ _, HB.out⟩
    · rw [if_neg c1] at heq
      have hlt : at_ < n := by omega
      have t1 : decide (at_ < n) = true := by simp; omega
      have t1' : decide (n ≤ at_) = false := by simp; omega
      obtain ⟨bk, off, hAe, hbk, hc⟩ := HP.out.below hB (by omega)
      have hci := hc at_ hlt
      have hx256 := hbt at_
      obtain ⟨x, hx⟩ : ∃ x, x = b at_ := ⟨_, rfl⟩
      rw [← hx] at heq hci hx256
      by_cases c2 : x = 0
      · subst c2
        rw [if_pos rfl] at heq
        subst heq
        rw [← cells8_gz] at hown
        obtain ⟨A2, c2, he2, hN2⟩ := NewB.of_own hown
        injection he2 with e1 e2 e3
        subst e1 e3
        have HN2 := Lib.hid hN2
        have HB := Lib.hid hB
        subst hAe
        skip
        clear hown hB hN2 hx hc e2
        go_wp2
        go_ret3
        exact ⟨_, _, rfl, HN2.out, HB.out⟩
      · rw [if_neg c2] at heq
        have t2 : ((x : Int) == 0) = false := by simp; omega
        by_cases c3 : n - (at_ + 1) < x
        · rw [if_pos c3] at heq
          subst heq
          have HB := Lib.hid hB
          subst hAe
          have t3 : decide ((n : Int) - ((at_ : Int) + 1) < (x : Int)) = true := by simp; omega
          clear hown hB hx hc c2
          go_wp2
          go_ret3
          exact ⟨none, 0, rfl, nilB _ _, HB.out⟩
        · rw [if_neg c3] at heq
          obtain ⟨v2, W2, r2, o2, b2⟩ := app_cut (q := at_ + 1) (m := x) hown hB (by omega) (by omega) h1 H3.out HP.out (by omega)
          have RM := run_mid A n cap (at_ + 1) x (by omega)
          rw [show ((at_ + 1 : Nat) : Int) = (at_ : Int) + 1 by omega] at RM
          obtain ⟨Z, hZ⟩ : ∃ Z, Z = (if cap = at_ + 1 then A else A.map (·.add (at_ + 1))) := ⟨_, rfl⟩
          rw [← hZ] at RM r2
          subst hAe
          have HNEW : Hid (UnR w b n r v2 (out ++ (List.range x).map fun i => b (at_ + 1 + i)) (at_ + 1 + x) K W2) := Lib.hid ⟨o2, b2, by rw [hx] at heq ⊢; exact heq, by omega, by simp; omega, by omega⟩
          have HR2 := Lib.hid r2
          have hM : Hid (n - (at_ + 1 + x) < n - at_) := Lib.hid (by omega)
          have t3 : decide ((n : Int) - ((at_ : Int) + 1) < (x : Int)) = false := by simp; omega
          clear hown hB r2 o2 b2 hx hc heq hZ c2
          go_wp2_with (at_builtin; refine wpList_app rfl _ _ 22 rfl _ _ _ _ rfl rfl HR2.out ?_)
          go_roundw
          case rel => exact ⟨_, _, _, by go_num, HNEW.out⟩
          case measure => have := hM.out; simp [intOf]; omega
set_option maxRecDepth 100000 in
set_option maxHeartbeats 2000000 in
theorem unb_ref (A : Option Addr) (n cap : Nat) (b : Nat → Nat) (hbt : ∀ i, b i < 256) (h1 : n ≤ cap) (h2 : cap ≤ maxLen) (h3 : A = none → cap = 0) (hn : n ≤ 100000) (w : World) (hP : Byt w A n b) :
    Calls Try.prog 26 #[.slice A n cap] w fun e w' => ∃ A' cap', e = .returned (.tuple #[.slice A' (unV b n).1.length cap', .int .i64 ((unV b n).2.1 : Nat), .int .i64 ((unV b n).2.2 : Nat)]) ∧ NewB w.heap.size w' (unV b n).1.length A' cap' (gz (unV b n).1) ∧ Below w.heap.size w w' := by
  obtain ⟨r, hr⟩ : ∃ r, r = unV b n := ⟨_, rfl⟩
  rw [← hr]
  have H0 : Hid (UnR w b n r (.slice none 0 0) [] 0 (n + 1) w) := Lib.hid ⟨World.ownsRow_nil _ _ _ _, Below.refl _ _, hr.symm, by omega, by simp, by omega⟩
  have H2 := Lib.hid h2
  have H3 := Lib.hid h3
  have HP := Lib.hid hP
  unfold maxLen at h2
  clear hr hP h3
  go_enter Try.func26, Try.ntmps26
  go_wp2_with fail
  go_loopw [5, 6] (fun s5 s6 wr => ∃ (out : List Nat) (at_ K : Nat), s6 = .int .i64 (at_ : Nat) ∧ UnR w b n r s5 out at_ K wr) (fun _ s6 _ => n - (intOf s6).toNat)
  case atStart => exact ⟨[], 0, n + 1, rfl, H0.out⟩
  case round =>
    clear H0
    obtain ⟨out, at_, K, rfl, hown, hB, heq, hat, hol, hK⟩ := hrel
    obtain ⟨-, Ao, co, rfl, p1, p2, -⟩ := Sl.of_own hown
    obtain ⟨K, rfl⟩ : ∃ j, K = j + 1 := ⟨K - 1, by omega⟩
    rw [unF] at heq
    by_cases c1 : n ≤ at_
    · rw [if_pos c1] at heq
      obtain rfl : at_ = n := by omega
      subst heq
      have HB := Lib.hid hB
      clear hown hB
      go_wp2
      go_ret3
      exact ⟨none, 0, rfl, nilB _ _, HB.out⟩
    · rw [if_neg c1] at heq
      have hlt : at_ < n := by omega
      have t1 : decide (at_ < n) = true := by simp; omega
      have t1' : decide (n ≤ at_) = false := by simp; omega
      obtain ⟨bk, off, hAe, hbk, hc⟩ := HP.out.below hB (by omega)
      have hci := hc at_ hlt
      have hx256 := hbt at_
      obtain ⟨x, hx⟩ : ∃ x, x = b at_ := ⟨_, rfl⟩
      rw [← hx] at heq hci hx256
      by_cases c2 : x = 0
      · subst c2
        rw [if_pos rfl] at heq
        subst heq
        rw [← cells8_gz] at hown
        obtain ⟨A2, c2, he2, hN2⟩ := NewB.of_own hown
        injection he2 with e1 e2 e3
        subst e1 e3
        have HN2 := Lib.hid hN2
        have HB := Lib.hid hB
        subst hAe
        have t3 : decide ((n : Int) - (at_ : Int) - 1 < 0) = false := by simp; omega
        clear hown hB hN2 hx hc e2
        go_wp2
        go_ret3
        exact ⟨_, _, rfl, HN2.out, HB.out⟩
      · rw [if_neg c2] at heq
        have t2 : ((x : Int) == 0) = false := by simp; omega
        by_cases c3 : n - (at_ + 1) < x
        · rw [if_pos c3] at heq
          subst heq
          have HB := Lib.hid hB
          subst hAe
          have t3 : decide ((n : Int) - (at_ : Int) - 1 < (x : Int)) = true := by simp; omega
          clear hown hB hx hc c2
          go_wp2
          go_ret3
          exact ⟨none, 0, rfl, nilB _ _, HB.out⟩
        · rw [if_neg c3] at heq
          obtain ⟨v2, W2, r2, o2, b2⟩ := app_cut (q := at_ + 1) (m := x) hown hB (by omega) (by omega) h1 H3.out HP.out (by omega)
          have RM := run_mid A n cap (at_ + 1) x (by omega)
          rw [show ((at_ + 1 : Nat) : Int) = (at_ : Int) + 1 by omega] at RM
          obtain ⟨Z, hZ⟩ : ∃ Z, Z = (if cap = at_ + 1 then A else A.map (·.add (at_ + 1))) := ⟨_, rfl⟩
          rw [← hZ] at RM r2
          subst hAe
          have HNEW : Hid (UnR w b n r v2 (out ++ (List.range x).map fun i => b (at_ + 1 + i)) (at_ + 1 + x) K W2) := Lib.hid ⟨o2, b2, by rw [hx] at heq ⊢; exact heq, by omega, by simp; omega, by omega⟩
          have HR2 := Lib.hid r2
          have hM : Hid (n - (at_ + 1 + x) < n - at_) := Lib.hid (by omega)
          have t3 : decide ((n : Int) - (at_ : Int) - 1 < (x : Int)) = false := by simp; omega
          clear hown hB r2 o2 b2 hx hc heq hZ c2
          go_wp2_with (at_builtin; refine wpList_app rfl _ _ 22 rfl _ _ _ _ rfl rfl HR2.out ?_)
          go_roundw
          case rel => exact ⟨_, _, _, by go_num, HNEW.out⟩
          case measure => have := hM.out; simp [intOf]; omega
end Go.Proofs.Ytioghgnngdcicaa
