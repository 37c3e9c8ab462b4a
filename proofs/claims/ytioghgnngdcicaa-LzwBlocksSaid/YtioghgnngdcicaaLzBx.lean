/- LzwBlocks: the walk. -/
import Derived.Test.YtioghgnngdcicaaLzBu
namespace Go.Proofs.Ytioghgnngdcicaa
set_option linter.unusedVariables false
open Go.ChangeShapes Go.WideShapes Go.ChangeAt Go.RowKit

theorem blk_progN (A : Option Addr) (n cap : Nat) (b : Nat → Nat) (hbt : ∀ i, b i < 256) (h1 : n ≤ cap) (h2 : cap ≤ maxLen) (h3 : A = none → cap = 0) (hn : n ≤ 100000) (w : World) (hP : Byt w A n b) :
    Calls Try.prog 24 #[.slice A n cap] w fun e w' => ∃ A' cap', e = .returned (.slice A' (blkV ((List.range n).map b)).length cap') ∧ NewB w.heap.size w' (blkV ((List.range n).map b)).length A' cap' (gz (blkV ((List.range n).map b))) ∧ Below w.heap.size w w' := by
  have e : ((List.range n).map b).length = n := by simp
  have h := blk_prog A cap ((List.range n).map b) (fun v hv => by obtain ⟨i, _, rfl⟩ := List.mem_map.1 hv; exact hbt i) (by omega) h2 h3 (by omega) w (byt_gz hP)
  rw [e] at h
  exact h
theorem blk_refN (A : Option Addr) (n cap : Nat) (b : Nat → Nat) (hbt : ∀ i, b i < 256) (h1 : n ≤ cap) (h2 : cap ≤ maxLen) (h3 : A = none → cap = 0) (hn : n ≤ 100000) (w : World) (hP : Byt w A n b) :
    Calls Try.prog 27 #[.slice A n cap] w fun e w' => ∃ A' cap', e = .returned (.slice A' (blkV ((List.range n).map b)).length cap') ∧ NewB w.heap.size w' (blkV ((List.range n).map b)).length A' cap' (gz (blkV ((List.range n).map b))) ∧ Below w.heap.size w w' := by
  have e : ((List.range n).map b).length = n := by simp
  have h := blk_ref A cap ((List.range n).map b) (fun v hv => by obtain ⟨i, _, rfl⟩ := List.mem_map.1 hv; exact hbt i) (by omega) h2 h3 (by omega) w (byt_gz hP)
  rw [e] at h
  exact h
/-- Bytes behind a row of one's own. -/
theorem app_list {W : World} {base : Nat} {v : Value} {out l : List Nat} {A : Option Addr} {cap : Nat} (h : W.ownsRow base 5 1 v out.length (cellsB out)) (hb : base ≤ W.heap.size) (ho : out.length ≤ 1000000) (hl : l.length ≤ 1000000) (hz : A = none → cap = 0) (hP : Byt W A l.length (gz l)) :
    ∃ v2 W2, (Builtin.append_ #[22, 22] 22 #[v, .slice A l.length cap]).run Try.prog W = .ok v2 W2 ∧ W2.ownsRow base 5 1 v2 (out ++ l).length (cellsB (out ++ l)) ∧ Below base W W2 := by
  obtain ⟨i0, hi, hz0, hz1, hz2⟩ := info_parts info8
  obtain ⟨v2, W2, r2, o2, g2, _⟩ := run_app (P := Try.prog) (w := W) base 22 22 5 i0 (.int .u8 0) 1 1 Try.underlying22 hi hz0 hz1 hz2 rfl (by omega) v out.length (cellsB out) h
    A l.length cap (cells8 l.length (gz l)) hz (by simp [cells8]) (byt_news hP) (cells8_one _ _) (by unfold maxLen; omega) (by omega) hb
  have e : cellsB out ++ cells8 l.length (gz l) = cellsB (out ++ l) := by rw [cells8_gz]; simp [cellsB]
  rw [e] at o2
  exact ⟨v2, W2, r2, own_len (by simp) o2, bel_grown (Below.refl base W) g2 (fun r hr => (h.lt r hr).1) hb⟩
set_option maxRecDepth 1000000 in
set_option maxHeartbeats 4000000 in
theorem blocks_walk (A : Option Addr) (n cap : Nat) (b : Nat → Nat) (hbt : ∀ i, b i < 256) (h1 : n ≤ cap) (h2 : cap ≤ maxLen) (h3 : A = none → cap = 0) (C : Option Addr) (m capc : Nat) (d : Nat → Nat) (hdt : ∀ i, d i < 256) (k1 : m ≤ capc) (k2 : capc ≤ maxLen) (k3 : C = none → capc = 0) (w : World) (hP : Byt w A n b) (hQ : Byt w C m d) :
    Calls Try.prog 10 #[.slice A n cap, .slice C m capc] w fun e w' => e = .returned (.bool true) ∧ Below w.heap.size w w' := by
  go_enter Try.func10, Try.ntmps10
  go_wp2_with fail
  refine (awake7 _).mono ?_
  rintro e w1 ⟨rfl, hB1⟩
  have HP1 := Lib.hid (hP.below hB1)
  have HQ1 := Lib.hid (hQ.below hB1)
  have HB1 := Lib.hid hB1
  clear hB1 hP hQ
  by_cases c1 : 3000 < n
  · have d1 : decide (3000 < n) = true := by simp; omega
    go_wp2
    go_ret
    exact ⟨rfl, HB1.out⟩
  have d1 : decide (3000 < n) = false := by simp; omega
  by_cases c2 : 3000 < m
  · have d2 : decide (3000 < m) = true := by simp; omega
    go_wp2
    go_ret
    exact ⟨rfl, HB1.out⟩
  have d2 : decide (3000 < m) = false := by simp; omega
  obtain ⟨l, hl⟩ : ∃ l, l = (List.range n).map b := ⟨_, rfl⟩
  obtain ⟨lc, hlc⟩ : ∃ l, l = (List.range m).map d := ⟨_, rfl⟩
  have hln : l.length = n := by rw [hl]; simp
  have hlm : lc.length = m := by rw [hlc]; simp
  have h256 : ∀ v ∈ l, v < 256 := fun v hv => by rw [hl] at hv; obtain ⟨i, _, rfl⟩ := List.mem_map.1 hv; exact hbt i
  have hc256 : ∀ v ∈ lc, v < 256 := fun v hv => by rw [hlc] at hv; obtain ⟨i, _, rfl⟩ := List.mem_map.1 hv; exact hdt i
  have hbl := blkV_len l
  have hb256 : ∀ v ∈ blkV l ++ lc, v < 256 := fun v hv => by
    rcases List.mem_append.1 hv with h | h
    · exact blkV_lt l h256 v h
    · exact hc256 v h
  have H256 := Lib.hid hb256
  have HL := Lib.hid hl
  have HLC := Lib.hid hlc
  have HLN := Lib.hid hln
  have HLM := Lib.hid hlm
  have HD := Lib.hid h256
  obtain ⟨z, hz⟩ : ∃ z, z = blkV l := ⟨_, rfl⟩
  have hzl : z.length ≤ 6001 := by rw [hz]; omega
  have HZ := Lib.hid hz
  clear hl hlc hln hlm h256 hc256 hb256 hbl hz
  go_wp2_with fail
  refine (blk_progN A n cap b hbt h1 h2 h3 (by omega) _ HP1.out).mono ?_
  rw [← HL.out, ← HZ.out]
  rintro e w2 ⟨A2, cap2, rfl, hN2, hB2⟩
  have HB2 := Lib.hid (HB1.out.trans (hB2.mono HB1.out.size))
  have HP2 := Lib.hid (HP1.out.below hB2)
  have HQ2 := Lib.hid (HQ1.out.below hB2)
  have HN2 := Lib.hid hN2
  clear hN2 hB2 HP1 HQ1 HB1
  have hB2a := (Below.refl w2.heap.size w2).alloc (Nat.le_refl _) (.cells #[] 5)
  obtain ⟨v3, w3, r3, o3, b3⟩ := app_list (l := z) (A := A2) (cap := cap2) (show (w2.alloc (.cells #[] 5)).ownsRow w2.heap.size 5 1 (.slice (some ⟨w2.heap.size, 0, none⟩) 0 0) ([] : List Nat).length (cellsB []) from own_empty w2) (by simp) (by simp) (by omega) HN2.out.nil (HN2.out.byt.below hB2a)
  have hB3 := hB2a.trans b3
  have hQ3 : Byt w3 C lc.length (gz lc) := by
    have := byt_gz (HQ2.out.below hB3)
    rwa [← HLC.out] at this
  obtain ⟨v4, w4, r4, o4, b4⟩ := app_list (l := lc) (A := C) (cap := capc) o3 (by have := hB3.size; omega) (by simpa using by omega) (by have := HLM.out; omega) k3 hQ3
  have hB4 := hB3.trans b4
  rw [List.nil_append] at o4
  obtain ⟨zc, hzcd⟩ : ∃ zc, zc = z ++ lc := ⟨_, rfl⟩
  rw [← hzcd] at o4
  obtain ⟨A4, cap4, he4, q1, q2, q3, q4⟩ := byt_of_row o4
  subst he4
  rw [HLM.out] at r4
  have HR3 := Lib.hid r3
  have HR4 := Lib.hid r4
  have hq4 : Byt w4 A4 zc.length (gz zc) := q4
  have HQ4 := Lib.hid hq4
  have HQ41 := Lib.hid q1
  have HQ42 := Lib.hid q2
  have HQ43 := Lib.hid q3
  have HB4 := Lib.hid hB4
  have hzc : zc.length ≤ 10000 := by rw [hzcd, List.length_append, HLM.out]; omega
  have hun : unV (gz zc) zc.length = (l, z.length, 0) := by rw [hzcd, HZ.out]; exact un_back l lc
  have HUN := Lib.hid hun
  have hzc256 : ∀ i, gz zc i < 256 := gz_lt (by rw [hzcd, HZ.out]; exact H256.out)
  have HZC := Lib.hid hzc256
  clear r3 o3 b3 hB3 hQ3 r4 o4 b4 hB4 q1 q2 q3 q4 hq4 hB2a hun hzcd hzc256
  go_wp2_with (at_builtin; first | ((with_reducible refine wpList_app (o := ⟨some 30, _, _, _, _, _⟩) ?_ (.tmp 28) (.tmp 29) 22 ?_ _ _ _ _ ?_ ?_ HR3.out ?_); rfl; rfl; rfl; rfl) | ((with_reducible refine wpList_app (o := ⟨some 32, _, _, _, _, _⟩) ?_ (.tmp 30) (.tmp 31) 22 ?_ _ _ _ _ ?_ ?_ HR4.out ?_); rfl; rfl; rfl; rfl))
  have hcall := unb_prog A4 zc.length cap4 (gz zc) HZC.out HQ41.out HQ42.out HQ43.out (by omega) w4 HQ4.out
  rw [HUN.out] at hcall
  dsimp only at hcall
  refine hcall.mono ?_
  rintro e w5 ⟨A5, cap5, rfl, hN5, hB5⟩
  have hB25 := HB4.out.trans (hB5.mono HB4.out.size)
  have HN2' := Lib.hid (HN2.out.chgB hB25)
  have HP5 := Lib.hid (HP2.out.below hB25)
  have HQ5 := Lib.hid (HQ2.out.below hB25)
  have HB5 := Lib.hid (HB2.out.trans (hB25.mono HB2.out.size))
  have HN5 := Lib.hid hN5
  clear hcall hN5 hB5 hB25 HQ4 HQ41 HQ42 HQ43 HR3 HR4 HN2 HP2 HQ2 HB4 HB2 HUN hzc
  obtain ⟨r, hr⟩ : ∃ r, r = unV d m := ⟨_, rfl⟩
  have HR := Lib.hid hr
  clear hr
  go_wp2_with fail
  refine (unb_prog C m capc d hdt k1 k2 k3 (by omega) _ HQ5.out).mono ?_
  rw [← HR.out]
  rintro e w6 ⟨A6, cap6, rfl, hN6, hB6⟩
  have HN26 := Lib.hid (HN2'.out.chgB hB6)
  have HN56 := Lib.hid (HN5.out.chgB hB6)
  have HP6 := Lib.hid (HP5.out.below hB6)
  have HQ6 := Lib.hid (HQ5.out.below hB6)
  have HB6 := Lib.hid (HB5.out.trans (hB6.mono HB5.out.size))
  have HN6 := Lib.hid hN6
  clear hN6 hB6 HN2' HN5 HP5 HQ5 HB5
  go_wp2_with fail
  refine (unb_ref C m capc d hdt k1 k2 k3 (by omega) _ HQ6.out).mono ?_
  rw [← HR.out]
  obtain ⟨y1, y2, y3⟩ := r
  dsimp only at HN6 ⊢
  rintro e w7 ⟨A7, cap7, rfl, hN7, hB7⟩
  have HN27 := Lib.hid (HN26.out.chgB hB7)
  have HN57 := Lib.hid (HN56.out.chgB hB7)
  have HN67 := Lib.hid (HN6.out.chgB hB7)
  have HP7 := Lib.hid (HP6.out.below hB7)
  have HB7 := Lib.hid (HB6.out.trans (hB7.mono HB6.out.size))
  have HN7 := Lib.hid hN7
  clear hN7 hB7 HN26 HN56 HN6 HP6 HQ6 HB6 HR
  have hPg : Byt w7 A n (gz l) := by
    have := byt_gz HP7.out
    rw [← HL.out, HLN.out] at this
    exact this
  have HPG := Lib.hid hPg
  rw [HLN.out] at HN57 ⊢
  clear hPg
  have F1 := Lib.hid (show ∀ W, Below w7.heap.size w7 W → (convert 22 9 (.slice A2 z.length cap2)).run Try.prog W = .ok (.string (strB z.length (gz z))) W from fun W hW => run_str (cap := cap2) (HN27.out.byt.below hW))
  have F2 := Lib.hid (show ∀ W, Below w7.heap.size w7 W → (convert 22 9 (.slice A5 n cap5)).run Try.prog W = .ok (.string (strB n (gz l))) W from fun W hW => run_str (cap := cap5) (HN57.out.byt.below hW))
  have F3 := Lib.hid (show ∀ W, Below w7.heap.size w7 W → (convert 22 9 (.slice A n cap)).run Try.prog W = .ok (.string (strB n (gz l))) W from fun W hW => run_str (cap := cap) (HPG.out.below hW))
  have F4 := Lib.hid (show ∀ W, Below w7.heap.size w7 W → (convert 22 9 (.slice A6 y1.length cap6)).run Try.prog W = .ok (.string (strB y1.length (gz y1))) W from fun W hW => run_str (cap := cap6) (HN67.out.byt.below hW))
  have F5 := Lib.hid (show ∀ W, Below w7.heap.size w7 W → (convert 22 9 (.slice A7 y1.length cap7)).run Try.prog W = .ok (.string (strB y1.length (gz y1))) W from fun W hW => run_str (cap := cap7) (HN7.out.byt.below hW))
  have F6 := Lib.hid (show ∀ W, Below w7.heap.size w7 W → Byt W A n b from fun W hW => HP7.out.below hW)
  have s1 := ba_beq (strB z.length (gz z))
  have s2 := ba_beq (strB n (gz l))
  have s3 := ba_beq (strB y1.length (gz y1))
  have kd : Below w7.heap.size w7 w7.drew := (Below.refl _ _).drew
  have kd1 := F1.out _ kd
  clear HN27 HN57 HN67 HP7 HN7 HPG
  clear kd1
  go_upto_region 9 with fail
  refine wp_region_held_drew (S := (fun w' => (convert 22 9 (.slice A2 z.length cap2)).run Try.prog w' = .ok (.string (strB z.length (gz z))) w' ∧ (convert 22 9 (.slice A5 n cap5)).run Try.prog w' = .ok (.string (strB n (gz l))) w' ∧ (convert 22 9 (.slice A n cap)).run Try.prog w' = .ok (.string (strB n (gz l))) w' ∧ (convert 22 9 (.slice A6 y1.length cap6)).run Try.prog w' = .ok (.string (strB y1.length (gz y1))) w' ∧ (convert 22 9 (.slice A7 y1.length cap7)).run Try.prog w' = .ok (.string (strB y1.length (gz y1))) w')) (by kernel_rfl) ⟨F1.out _ kd, F2.out _ kd, F3.out _ kd, F4.out _ kd, F5.out _ kd⟩ (fun hHeld => ?_)
  refine wpAnyH_take (i := 0) (oi := ⟨some 49, _, _, _, _, _⟩) (v := ?v0) rfl (by kernel_rfl) (by kernel_rfl) (by kernel_rfl) (fun _ _ _ h => h) (Or.inl ⟨by rfl, ?y0⟩) hHeld ?r0
  case y0 => ((intro w hSw); (try dsimp only at hSw); go_simp; try with_reducible rfl)
  try simp only [Act.put, List.setIfInBounds_toArray, List.set_cons_zero, List.set_cons_succ]
  refine wpAnyH_take (i := 1) (oi := ⟨some 50, _, _, _, _, _⟩) (v := ?v1) rfl (by kernel_rfl) (by kernel_rfl) (by kernel_rfl) (fun _ _ _ h => h) (Or.inl ⟨by rfl, ?y1⟩) hHeld ?r1
  case y1 => ((intro w hSw); (try dsimp only at hSw); go_simp; try with_reducible rfl)
  try simp only [Act.put, List.setIfInBounds_toArray, List.set_cons_zero, List.set_cons_succ]
  refine wpAnyH_take (i := 2) (oi := ⟨some 51, _, _, _, _, _⟩) (v := ?v2) rfl (by kernel_rfl) (by kernel_rfl) (by kernel_rfl) (fun _ _ _ h => h) (Or.inl ⟨by rfl, ?y2⟩) hHeld ?r2
  case y2 => ((intro w hSw); (try dsimp only at hSw); go_simp; try with_reducible rfl)
  try simp only [Act.put, List.setIfInBounds_toArray, List.set_cons_zero, List.set_cons_succ]
  refine wpAnyH_ready (rs := [3]) (by kernel_rfl) (by simp) (AllReadyH.cons (o := ⟨some 52, _, _, _, _, _⟩) rfl (fun K hK => ?_) AllReadyH.nil)
  go_simp
  refine (blk_refN A n cap b hbt h1 h2 h3 (by omega) _ (F6.out _ (by with_reducible exact kd))).mono ?_
  rw [← HL.out, ← HZ.out]
  rintro e w8 ⟨A8, cap8, rfl, hN8, hB8⟩
  have e8 := run_str (cap := cap8) hN8.byt
  have kd8 : Below w7.heap.size w7 w8 := kd.trans (hB8.mono kd.size)
  have HE := Lib.hid (And.intro (F1.out _ kd8) (And.intro (F2.out _ kd8) (And.intro (F3.out _ kd8) (And.intro (F4.out _ kd8) (F5.out _ kd8)))))
  clear hN8 hB8
  go_wp2_with fail
  refine hK.out _ _ HE.out (fun hHeld => ?_)
  clear hK K
  try simp only [Act.put, List.setIfInBounds_toArray, List.set_cons_zero, List.set_cons_succ]
  refine wpAnyH_ready (rs := [4]) (by kernel_rfl) (by simp) (AllReadyH.cons (o := ⟨some 53, _, _, _, _, _⟩) rfl (fun K hK => ?_) AllReadyH.nil)
  go_simp
  refine hK.out _ _ HE.out (fun hHeld => ?_)
  clear hK K
  try simp only [Act.put, List.setIfInBounds_toArray, List.set_cons_zero, List.set_cons_succ]
  refine wpAnyH_take (i := 5) (oi := ⟨some 54, _, _, _, _, _⟩) (v := ?v5) rfl (by kernel_rfl) (by kernel_rfl) (by kernel_rfl) (fun _ _ _ h => h) (Or.inl ⟨by rfl, ?y5⟩) hHeld ?r5
  case y5 => ((intro w hSw); (try dsimp only at hSw); go_simp; try with_reducible rfl)
  try simp only [Act.put, List.setIfInBounds_toArray, List.set_cons_zero, List.set_cons_succ]
  refine wpAnyH_take (i := 6) (oi := ⟨some 55, _, _, _, _, _⟩) (v := ?v6) rfl (by kernel_rfl) (by kernel_rfl) (by kernel_rfl) (fun _ _ _ h => h) (Or.inl ⟨by rfl, ?y6⟩) hHeld ?r6
  case y6 => ((intro w hSw); (try dsimp only at hSw); go_simp; try with_reducible rfl)
  try simp only [Act.put, List.setIfInBounds_toArray, List.set_cons_zero, List.set_cons_succ]
  refine wpAnyH_take (i := 7) (oi := ⟨some 56, _, _, _, _, _⟩) (v := ?v7) rfl (by kernel_rfl) (by kernel_rfl) (by kernel_rfl) (fun _ _ _ h => h) (Or.inl ⟨by rfl, ?y7⟩) hHeld ?r7
  case y7 => ((intro w hSw); (try dsimp only at hSw); go_simp; try with_reducible rfl)
  try simp only [Act.put, List.setIfInBounds_toArray, List.set_cons_zero, List.set_cons_succ]
  refine wpAnyH_take (i := 8) (oi := ⟨some 57, _, _, _, _, _⟩) (v := ?v8) rfl (by kernel_rfl) (by kernel_rfl) (by kernel_rfl) (fun _ _ _ h => h) (Or.inl ⟨by rfl, ?y8⟩) hHeld ?r8
  case y8 => ((intro w hSw); (try dsimp only at hSw); go_simp; try with_reducible rfl)
  try simp only [Act.put, List.setIfInBounds_toArray, List.set_cons_zero, List.set_cons_succ]
  refine wpAnyH_take (i := 9) (oi := ⟨some 58, _, _, _, _, _⟩) (v := ?v9) rfl (by kernel_rfl) (by kernel_rfl) (by kernel_rfl) (fun _ _ _ h => h) (Or.inl ⟨by rfl, ?y9⟩) hHeld ?r9
  case y9 => ((intro w hSw); (try dsimp only at hSw); go_simp; try with_reducible rfl)
  try simp only [Act.put, List.setIfInBounds_toArray, List.set_cons_zero, List.set_cons_succ]
  refine wpAnyH_take (i := 10) (oi := ⟨some 59, _, _, _, _, _⟩) (v := ?v10) rfl (by kernel_rfl) (by kernel_rfl) (by kernel_rfl) (fun _ _ _ h => h) (Or.inl ⟨by rfl, ?y10⟩) hHeld ?r10
  case y10 => ((intro w hSw); (try dsimp only at hSw); go_simp; try with_reducible rfl)
  try simp only [Act.put, List.setIfInBounds_toArray, List.set_cons_zero, List.set_cons_succ]
  refine wpAnyH_take (i := 11) (oi := ⟨some 60, _, _, _, _, _⟩) (v := ?v11) rfl (by kernel_rfl) (by kernel_rfl) (by kernel_rfl) (fun _ _ _ h => h) (Or.inl ⟨by rfl, ?y11⟩) hHeld ?r11
  case y11 => ((intro w hSw); (try dsimp only at hSw); go_simp; try with_reducible rfl)
  try simp only [Act.put, List.setIfInBounds_toArray, List.set_cons_zero, List.set_cons_succ]
  refine wpAnyH_take (i := 12) (oi := ⟨some 61, _, _, _, _, _⟩) (v := ?v12) rfl (by kernel_rfl) (by kernel_rfl) (by kernel_rfl) (fun _ _ _ h => h) (Or.inl ⟨by rfl, ?y12⟩) hHeld ?r12
  case y12 => ((intro w hSw); (try dsimp only at hSw); go_simp; try with_reducible rfl)
  try simp only [Act.put, List.setIfInBounds_toArray, List.set_cons_zero, List.set_cons_succ]
  refine wpAnyH_take (i := 13) (oi := ⟨some 62, _, _, _, _, _⟩) (v := ?v13) rfl (by kernel_rfl) (by kernel_rfl) (by kernel_rfl) (fun _ _ _ h => h) (Or.inl ⟨by rfl, ?y13⟩) hHeld ?r13
  case y13 => ((intro w hSw); (try dsimp only at hSw); go_simp; try with_reducible rfl)
  try simp only [Act.put, List.setIfInBounds_toArray, List.set_cons_zero, List.set_cons_succ]
  refine wpAnyH_take (i := 14) (oi := ⟨some 63, _, _, _, _, _⟩) (v := ?v14) rfl (by kernel_rfl) (by kernel_rfl) (by kernel_rfl) (fun _ _ _ h => h) (Or.inl ⟨by rfl, ?y14⟩) hHeld ?r14
  case y14 => ((intro w hSw); (try dsimp only at hSw); go_simp; try with_reducible rfl)
  try simp only [Act.put, List.setIfInBounds_toArray, List.set_cons_zero, List.set_cons_succ]
  refine wpAnyH_take (i := 15) (oi := ⟨some 64, _, _, _, _, _⟩) (v := ?v15) rfl (by kernel_rfl) (by kernel_rfl) (by kernel_rfl) (fun _ _ _ h => h) (Or.inl ⟨by rfl, ?y15⟩) hHeld ?r15
  case y15 => ((intro w hSw); (try dsimp only at hSw); go_simp; try with_reducible rfl)
  try simp only [Act.put, List.setIfInBounds_toArray, List.set_cons_zero, List.set_cons_succ]
  refine wpAnyH_take (i := 16) (oi := ⟨some 65, _, _, _, _, _⟩) (v := ?v16) rfl (by kernel_rfl) (by kernel_rfl) (by kernel_rfl) (fun _ _ _ h => h) (Or.inl ⟨by rfl, ?y16⟩) hHeld ?r16
  case y16 => ((intro w hSw); (try dsimp only at hSw); go_simp; try with_reducible rfl)
  try simp only [Act.put, List.setIfInBounds_toArray, List.set_cons_zero, List.set_cons_succ]
  refine wpAnyH_take (i := 17) (oi := ⟨some 66, _, _, _, _, _⟩) (v := ?v17) rfl (by kernel_rfl) (by kernel_rfl) (by kernel_rfl) (fun _ _ _ h => h) (Or.inl ⟨by rfl, ?y17⟩) hHeld ?r17
  case y17 => ((intro w hSw); (try dsimp only at hSw); go_simp; try with_reducible rfl)
  try simp only [Act.put, List.setIfInBounds_toArray, List.set_cons_zero, List.set_cons_succ]
  refine wpAnyH_take (i := 18) (oi := ⟨some 67, _, _, _, _, _⟩) (v := ?v18) rfl (by kernel_rfl) (by kernel_rfl) (by kernel_rfl) (fun _ _ _ h => h) (Or.inl ⟨by rfl, ?y18⟩) hHeld ?r18
  case y18 => ((intro w hSw); (try dsimp only at hSw); go_simp; try with_reducible rfl)
  try simp only [Act.put, List.setIfInBounds_toArray, List.set_cons_zero, List.set_cons_succ]
  refine wpAnyH_take (i := 19) (oi := ⟨some 68, _, _, _, _, _⟩) (v := ?v19) rfl (by kernel_rfl) (by kernel_rfl) (by kernel_rfl) (fun _ _ _ h => h) (Or.inl ⟨by rfl, ?y19⟩) hHeld ?r19
  case y19 => ((intro w hSw); (try dsimp only at hSw); go_simp; try with_reducible rfl)
  try simp only [Act.put, List.setIfInBounds_toArray, List.set_cons_zero, List.set_cons_succ]
  refine wpAnyH_take (i := 20) (oi := ⟨some 69, _, _, _, _, _⟩) (v := ?v20) rfl (by kernel_rfl) (by kernel_rfl) (by kernel_rfl) (fun _ _ _ h => h) (Or.inl ⟨by rfl, ?y20⟩) hHeld ?r20
  case y20 => ((intro w hSw); (try dsimp only at hSw); go_simp; try with_reducible rfl)
  try simp only [Act.put, List.setIfInBounds_toArray, List.set_cons_zero, List.set_cons_succ]
  refine wpAnyH_take (i := 21) (oi := ⟨some 70, _, _, _, _, _⟩) (v := ?v21) rfl (by kernel_rfl) (by kernel_rfl) (by kernel_rfl) (fun _ _ _ h => h) (Or.inl ⟨by rfl, ?y21⟩) hHeld ?r21
  case y21 => ((intro w hSw); (try dsimp only at hSw); go_simp; try with_reducible rfl)
  try simp only [Act.put, List.setIfInBounds_toArray, List.set_cons_zero, List.set_cons_succ]
  refine wpAnyH_take (i := 22) (oi := ⟨some 71, _, _, _, _, _⟩) (v := ?v22) rfl (by kernel_rfl) (by kernel_rfl) (by kernel_rfl) (fun _ _ _ h => h) (Or.inl ⟨by rfl, ?y22⟩) hHeld ?r22
  case y22 => ((intro w hSw); (try dsimp only at hSw); go_simp; try with_reducible rfl)
  try simp only [Act.put, List.setIfInBounds_toArray, List.set_cons_zero, List.set_cons_succ]
  refine wpAnyH_take (i := 23) (oi := ⟨some 72, _, _, _, _, _⟩) (v := ?v23) rfl (by kernel_rfl) (by kernel_rfl) (by kernel_rfl) (fun _ _ _ h => h) (Or.inl ⟨by rfl, ?y23⟩) hHeld ?r23
  case y23 => ((intro w hSw); (try dsimp only at hSw); go_simp; try with_reducible rfl)
  try simp only [Act.put, List.setIfInBounds_toArray, List.set_cons_zero, List.set_cons_succ]
  refine wpAnyH_take (i := 24) (oi := ⟨some 73, _, _, _, _, _⟩) (v := ?v24) rfl (by kernel_rfl) (by kernel_rfl) (by kernel_rfl) (fun _ _ _ h => h) (Or.inl ⟨by rfl, ?y24⟩) hHeld ?r24
  case y24 => ((intro w hSw); (try dsimp only at hSw); go_simp; try with_reducible rfl)
  try simp only [Act.put, List.setIfInBounds_toArray, List.set_cons_zero, List.set_cons_succ]
  refine wpAnyH_take (i := 25) (oi := ⟨some 74, _, _, _, _, _⟩) (v := ?v25) rfl (by kernel_rfl) (by kernel_rfl) (by kernel_rfl) (fun _ _ _ h => h) (Or.inl ⟨by rfl, ?y25⟩) hHeld ?r25
  case y25 => ((intro w hSw); (try dsimp only at hSw); go_simp; try with_reducible rfl)
  try simp only [Act.put, List.setIfInBounds_toArray, List.set_cons_zero, List.set_cons_succ]
  refine wpAnyH_take (i := 26) (oi := ⟨some 75, _, _, _, _, _⟩) (v := ?v26) rfl (by kernel_rfl) (by kernel_rfl) (by kernel_rfl) (fun _ _ _ h => h) (Or.inl ⟨by rfl, ?y26⟩) hHeld ?r26
  case y26 => ((intro w hSw); (try dsimp only at hSw); go_simp; try with_reducible rfl)
  try simp only [Act.put, List.setIfInBounds_toArray, List.set_cons_zero, List.set_cons_succ]
  refine wpAnyH_take (i := 27) (oi := ⟨some 76, _, _, _, _, _⟩) (v := ?v27) rfl (by kernel_rfl) (by kernel_rfl) (by kernel_rfl) (fun _ _ _ h => h) (Or.inl ⟨by rfl, ?y27⟩) hHeld ?r27
  case y27 => ((intro w hSw); (try dsimp only at hSw); go_simp; try with_reducible rfl)
  try simp only [Act.put, List.setIfInBounds_toArray, List.set_cons_zero, List.set_cons_succ]
  refine wpAnyH_take (i := 28) (oi := ⟨some 77, _, _, _, _, _⟩) (v := ?v28) rfl (by kernel_rfl) (by kernel_rfl) (by kernel_rfl) (fun _ _ _ h => h) (Or.inl ⟨by rfl, ?y28⟩) hHeld ?r28
  case y28 => ((intro w hSw); (try dsimp only at hSw); go_simp; try with_reducible rfl)
  try simp only [Act.put, List.setIfInBounds_toArray, List.set_cons_zero, List.set_cons_succ]
  refine wpAnyH_take (i := 29) (oi := ⟨some 78, _, _, _, _, _⟩) (v := ?v29) rfl (by kernel_rfl) (by kernel_rfl) (by kernel_rfl) (fun _ _ _ h => h) (Or.inl ⟨by rfl, ?y29⟩) hHeld ?r29
  case y29 => ((intro w hSw); (try dsimp only at hSw); go_simp; try with_reducible rfl)
  try simp only [Act.put, List.setIfInBounds_toArray, List.set_cons_zero, List.set_cons_succ]
  refine wpAnyH_take (i := 30) (oi := ⟨some 79, _, _, _, _, _⟩) (v := ?v30) rfl (by kernel_rfl) (by kernel_rfl) (by kernel_rfl) (fun _ _ _ h => h) (Or.inl ⟨by rfl, ?y30⟩) hHeld ?r30
  case y30 => ((intro w hSw); (try dsimp only at hSw); go_simp; try with_reducible rfl)
  try simp only [Act.put, List.setIfInBounds_toArray, List.set_cons_zero, List.set_cons_succ]
  refine wpAnyH_take (i := 31) (oi := ⟨some 80, _, _, _, _, _⟩) (v := ?v31) rfl (by kernel_rfl) (by kernel_rfl) (by kernel_rfl) (fun _ _ _ h => h) (Or.inl ⟨by rfl, ?y31⟩) hHeld ?r31
  case y31 => ((intro w hSw); (try dsimp only at hSw); go_simp; try with_reducible rfl)
  try simp only [Act.put, List.setIfInBounds_toArray, List.set_cons_zero, List.set_cons_succ]
  refine wpAnyH_take (i := 32) (oi := ⟨some 81, _, _, _, _, _⟩) (v := ?v32) rfl (by kernel_rfl) (by kernel_rfl) (by kernel_rfl) (fun _ _ _ h => h) (Or.inl ⟨by rfl, ?y32⟩) hHeld ?r32
  case y32 => ((intro w hSw); (try dsimp only at hSw); go_simp; try with_reducible rfl)
  try simp only [Act.put, List.setIfInBounds_toArray, List.set_cons_zero, List.set_cons_succ]
  refine wpAnyH_take (i := 33) (oi := ⟨some 82, _, _, _, _, _⟩) (v := ?v33) rfl (by kernel_rfl) (by kernel_rfl) (by kernel_rfl) (fun _ _ _ h => h) (Or.inl ⟨by rfl, ?y33⟩) hHeld ?r33
  case y33 => ((intro w hSw); (try dsimp only at hSw); go_simp; try with_reducible rfl)
  try simp only [Act.put, List.setIfInBounds_toArray, List.set_cons_zero, List.set_cons_succ]
  refine wpAnyH_take (i := 34) (oi := ⟨some 83, _, _, _, _, _⟩) (v := ?v34) rfl (by kernel_rfl) (by kernel_rfl) (by kernel_rfl) (fun _ _ _ h => h) (Or.inl ⟨by rfl, ?y34⟩) hHeld ?r34
  case y34 => ((intro w hSw); (try dsimp only at hSw); go_simp; try with_reducible rfl)
  try simp only [Act.put, List.setIfInBounds_toArray, List.set_cons_zero, List.set_cons_succ]
  refine wpAnyH_take (i := 35) (oi := ⟨some 84, _, _, _, _, _⟩) (v := ?v35) rfl (by kernel_rfl) (by kernel_rfl) (by kernel_rfl) (fun _ _ _ h => h) (Or.inl ⟨by rfl, ?y35⟩) hHeld ?r35
  case y35 => ((intro w hSw); (try dsimp only at hSw); go_simp; try with_reducible rfl)
  try simp only [Act.put, List.setIfInBounds_toArray, List.set_cons_zero, List.set_cons_succ]
  refine wpAnyH_take (i := 36) (oi := ⟨some 85, _, _, _, _, _⟩) (v := ?v36) rfl (by kernel_rfl) (by kernel_rfl) (by kernel_rfl) (fun _ _ _ h => h) (Or.inl ⟨by rfl, ?y36⟩) hHeld ?r36
  case y36 => ((intro w hSw); (try dsimp only at hSw); go_simp; try with_reducible rfl)
  try simp only [Act.put, List.setIfInBounds_toArray, List.set_cons_zero, List.set_cons_succ]
  refine wpAnyH_take (i := 37) (oi := ⟨some 86, _, _, _, _, _⟩) (v := ?v37) rfl (by kernel_rfl) (by kernel_rfl) (by kernel_rfl) (fun _ _ _ h => h) (Or.inl ⟨by rfl, ?y37⟩) hHeld ?r37
  case y37 => ((intro w hSw); (try dsimp only at hSw); go_simp; try with_reducible rfl)
  try simp only [Act.put, List.setIfInBounds_toArray, List.set_cons_zero, List.set_cons_succ]
  refine wpAnyH_take (i := 38) (oi := ⟨some 87, _, _, _, _, _⟩) (v := ?v38) rfl (by kernel_rfl) (by kernel_rfl) (by kernel_rfl) (fun _ _ _ h => h) (Or.inl ⟨by rfl, ?y38⟩) hHeld ?r38
  case y38 => ((intro w hSw); (try dsimp only at hSw); go_simp; try with_reducible rfl)
  try simp only [Act.put, List.setIfInBounds_toArray, List.set_cons_zero, List.set_cons_succ]
  refine wpAnyH_take (i := 39) (oi := ⟨some 88, _, _, _, _, _⟩) (v := ?v39) rfl (by kernel_rfl) (by kernel_rfl) (by kernel_rfl) (fun _ _ _ h => h) (Or.inl ⟨by rfl, ?y39⟩) hHeld ?r39
  case y39 => ((intro w hSw); (try dsimp only at hSw); go_simp; try with_reducible rfl)
  try simp only [Act.put, List.setIfInBounds_toArray, List.set_cons_zero, List.set_cons_succ]
  refine wpAnyH_take (i := 40) (oi := ⟨some 4, _, _, _, _, _⟩) (v := ?v40) rfl (by kernel_rfl) (by kernel_rfl) (by kernel_rfl) (fun _ _ _ h => h) (Or.inl ⟨by rfl, ?y40⟩) hHeld ?r40
  case y40 => ((intro w hSw); (try dsimp only at hSw); go_simp; try with_reducible rfl)
  try simp only [Act.put, List.setIfInBounds_toArray, List.set_cons_zero, List.set_cons_succ]
  refine wpAnyH_done (by kernel_rfl) ?_ _
  go_wp2
  go_ret
  exact ⟨rfl, HB7.out.trans (kd8.mono HB7.out.size)⟩
end Go.Proofs.Ytioghgnngdcicaa
