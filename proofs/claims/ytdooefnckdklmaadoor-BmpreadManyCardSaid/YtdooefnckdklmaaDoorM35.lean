/- BmpreadMany: reading the file back. -/
import Derived.Test.YtdooefnckdklmaaDoorM34

namespace Go.Proofs.YtdooefnckdklmaaDoor
set_option maxRecDepth 100000
set_option linter.unusedVariables false
open Go.ChangeShapes Go.WideShapes Go.ChangeAt Go.RowKit

theorem and16M (x : Nat) (h : x < 4294967296) : bits .and .u32 (x : Int) 65535 = ((x % 65536 : Nat) : Int) := by
  have h1 := u32_and_nat x 65535 h (by omega)
  rw [show ((65535 : Nat) : Int) = 65535 from rfl] at h1
  rw [h1, show (65535 : Nat) = 2 ^ 16 - 1 from rfl, Nat.and_two_pow_sub_one_eq_mod]
/-- A picture's sample, by the masks. -/
theorem many_px {f : Nat → Nat} {bits k : Nat} (hm : masksB f bits = true) (hk : k < 4) (v : Nat) : ((pt4 (bm4 f v) k : Nat) : Int) = prtV v (f k) := by
  rw [masksB, List.all_eq_true] at hm
  have h1 := hm k (List.mem_range.2 hk)
  have hp : (runM (f k)).2.2 = true ∨ k = 3 := by
    unfold msOk at h1
    simp only [Bool.or_eq_true, Bool.and_eq_true, decide_eq_true_eq] at h1
    rcases h1 with h1 | h1
    · exact .inr h1.2
    · exact .inl h1.1.1.1
  rw [prt_bm f v k hp, ← Int.toNat_of_nonneg (bmF_nn f v k)]
  have h : k = 0 ∨ k = 1 ∨ k = 2 ∨ k = 3 := by omega
  rcases h with rfl | rfl | rfl | rfl <;> rfl
theorem wp_sameM {P : Program} {c : Code} {R : Exit → Act → World → Prop} {a : Act} {w : World} (h : c.wp P (Exit.then (fun a w => R .normal a w) R) a w) : c.wp P R a w :=
  Code.wp_mono (fun e _ _ q => by cases e <;> exact q) h
noncomputable def tailM : Code := ((Tryd.f8.body.bind (fromRegion 25)).getD .skip)
set_option maxRecDepth 1000000 in
set_option maxHeartbeats 8000000 in
theorem many_tail (f vv : Nat → Nat) (HF : Hid (∀ i, f i < 4294967296)) (HVV : Hid (∀ i, vv i < 4294967296)) (A : Option Addr) (m cap : Nat) (hm : m ≤ cap) (hcap : cap ≤ 2 ^ 63 - 1) (hm1 : 1 ≤ m ∧ m ≤ 200) (wd : Bool) (bits : Nat) (HBS : Hid (bits = if wd = true then 32 else 16)) (w : World) (HTW : Hid (TabW w)) (xb : Nat) (bx : Array Value) (HBX : Hid (bx = #[.int .u32 (f 0 : Nat), .int .u32 (f 1 : Nat), .int .u32 (f 2 : Nat), .int .u32 (f 3 : Nat)])) (nb N9 : Nat) (HN9 : Hid (N9 = 124 + bits / 8 * m)) (hN9 : N9 ≤ 1002) (v : Value) (wr : World) (HS : Hid (RwM nb xb bx A m vv w N9 (fileM m bits f vv) v wr)) (Kx : Act → World → Prop) (v0 v4 v5 v6 v9 v10 v11 v12 v13 v14 v15 v16 v17 v18 v19 v20 v21 v22 v23 v24 v25 v26 v27 v28 v29 v30 v31 v32 v33 v34 v35 v36 v37 v38 v39 v40 v41 v42 v43 v44 v45 v46 v47 v48 v49 v50 v51 v52 v53 v54 v55 v56 v57 v58 v59 v60 v61 v62 v63 v64 v65 v66 v67 v68 v69 v70 v71 v72 v73 v74 v75 v76 v77 v78 v79 v80 v81 v82 v83 v84 v85 v86 v87 v88 v89 v90 v91 v92 v93 v94 v95 v96 v97 v98 v99 v100 v101 v102 v103 v104 v105 v106 v107 v108 v109 v110 v111 v112 v113 v114 v115 v116 v117 v118 v119 v120 v121 v122 v123 v124 v125 v126 v127 v128 v129 v130 v131 v132 v133 v134 v135 v136 v137 v138 v139 v140 v141 v142 v143 v144 v145 v146 v147 v148 v149 v150 v151 v152 v153 v154 v155 v156 v157 v158 v159 v160 v161 v162 v163 v164 v165 v166 v167 v168 v169 v170 v171 v172 v173 v174 v175 v176 v177 v178 v179 v180 v181 v182 v183 : Value) :
    Code.wp Tryd.prog tailM (Exit.then Kx (bodyPost Tryd.prog Tryd.f8 (fun e w' => e = .returned (.bool true) ∧ Below w.heap.size w w'))) ⟨#[v0, .slice A m cap, .bool wd, .pointer (some ⟨xb, 0, none⟩), v4, v5, v6, .int .i64 (bits : Nat), v, v9, v10, v11, v12, v13, v14, v15, v16, v17, v18, v19, v20, v21, v22, v23, v24, v25, v26, v27, v28, v29, v30, v31, v32, v33, v34, v35, v36, v37, v38, v39, v40, v41, v42, v43, v44, v45, v46, v47, v48, v49, v50, v51, v52, v53, v54, v55, v56, v57, v58, v59, v60, v61, v62, v63, v64, v65, v66, v67, v68, v69, v70, v71, v72, v73, v74, v75, v76, v77, v78, v79, v80, v81, v82, v83, v84, v85, v86, v87, v88, v89, v90, v91, v92, v93, v94, v95, v96, v97, v98, v99, v100, v101, v102, v103, v104, v105, v106, v107, v108, v109, v110, v111, v112, v113, v114, v115, v116, v117, v118, v119, v120, v121, v122, v123, v124, v125, v126, v127, v128, v129, v130, v131, v132, v133, v134, v135, v136, v137, v138, v139, v140, v141, v142, v143, v144, v145, v146, v147, v148, v149, v150, v151, v152, v153, v154, v155, v156, v157, v158, v159, v160, v161, v162, v163, v164, v165, v166, v167, v168, v169, v170, v171, v172, v173, v174, v175, v176, v177, v178, v179, v180, v181, v182, v183], []⟩ wr := by
  conv => arg 2; whnf
  have hbits : bits = 16 ∨ bits = 32 := by
    have h := HBS.out
    cases wd with
    | true => exact .inr h
    | false => exact .inl h
  have hown := HS.out.own
  obtain ⟨-, A9, c9, rfl, -, -, -⟩ := Sl.of_own hown
  obtain ⟨hBy, hn9, hc9, hA9⟩ := byt_own hown (by rw [fileM_len, HN9.out])
  have hMD := many_file m bits f vv hm1.2 hbits HF.out
  obtain ⟨hbw, hbh, hbad, hgood⟩ := hMD.read hm1 hbits N9 HN9.out
  have hmk4 : ∀ k, k < 4 → bmMask (gl (fileM m bits f vv)) k = f k := fun k hk => hMD.mask k hk
  have hDe := (decode_b A9 N9 c9 _ (gl_lt fileM_lt) hn9 hc9 wr hA9 hBy (HTW.out.below HS.out.st.bel)).mono (fun _ _ h => bm_pic h)
  have hRe : ∀ wq, Byt wq A9 N9 (gl (fileM m bits f vv)) → Calls Tryd.prog 12 #[.slice A9 N9 c9] wq (picPost (bmW (gl (fileM m bits f vv))).toNat (bmH (gl (fileM m bits f vv))).natAbs (bmG (gl (fileM m bits f vv)) N9) wq) := fun wq h => bmp_any A9 N9 c9 _ (gl_lt fileM_lt) hn9 hc9 wq h
  obtain ⟨Y, hY⟩ : ∃ Y, Y = (bmH (gl (fileM m bits f vv))).natAbs := ⟨_, rfl⟩
  rw [← hY] at hDe hRe hbh
  rw [hbw, Int.toNat_natCast] at hDe
  rw [hbw, Int.toNat_natCast] at hRe
  obtain ⟨n4, hn4⟩ : ∃ n4, n4 = 4 * (m * Y) := ⟨_, rfl⟩
  have hn4b : n4 = 4 * m := by rw [hn4, hbh, Nat.mul_one]
  have hn4c : n4 ≤ 800 ∧ 4 ≤ n4 ∧ Y ≤ 1 := by omega
  have HN4 := Lib.hid hn4
  have HN4B := Lib.hid hn4b
  have HST9 := Lib.hid HS.out.st
  have HBY := Lib.hid hBy
  cases hmk : masksB (bmMask (gl (fileM m bits f vv))) bits with
  | false =>
    have hG := hbad hmk
    rw [hG] at hDe hRe
    have HDE := Lib.hid hDe
    have HRE := Lib.hid hRe
    clear hown hBy hn9 hc9 hA9 hMD hbw hY hn4 hn4b hbh hbad hgood hmk4 hmk hG hDe hRe HS HN9
    generalize gl (fileM m bits f vv) = d at *
    go_wp2_with fail
    refine HDE.out.mono ?_
    rintro e wa ⟨⟨hBa, ⟨h, _⟩ | ⟨_, rfl⟩⟩, -⟩
    · exact absurd h (by decide)
    have HB2 := Lib.hid hBa
    clear HDE
    have hal : Below wa.heap.size wa (wa.alloc (.cells #[.int .i64 0, .int .i64 0, .slice none 0 0] 26)) := (Below.refl _ wa).alloc (Nat.le_refl _) _
    have HQ := Lib.hid (hp_new0 wa (.cells #[.int .i64 0, .int .i64 0, .slice none 0 0] 26))
    have hB3 := hBa.trans (hal.mono hBa.size)
    have HP3 := Lib.hid (HBY.out.below hB3)
    have HB3 := Lib.hid (HST9.out.below hB3).bel
    clear hal hBa hB3 HB2
    go_wp2_with fail
    generalize wa.alloc (.cells #[.int .i64 0, .int .i64 0, .slice none 0 0] 26) = w3 at *
    refine (HRE.out _ HP3.out).mono ?_
    rintro e w4 ⟨hB4, ⟨h9, _⟩ | ⟨_, rfl⟩⟩
    · exact absurd h9 (by decide)
    have hal : Below w4.heap.size w4 (w4.alloc (.cells #[.int .i64 0, .int .i64 0, .slice none 0 0] 26)) := (Below.refl _ w4).alloc (Nat.le_refl _) _
    have hB5 := hB4.trans (hal.mono hB4.size)
    have hQ5 := hp_below HQ.out hB5 (lt_heap HQ.out)
    have hR5 := hp_new0 w4 (.cells #[.int .i64 0, .int .i64 0, .slice none 0 0] 26)
    have HB5 := Lib.hid (HB3.out.trans (hB5.mono HB3.out.size))
    have q0 := hp_cell (j := 0) hQ5 rfl
    have q1 := hp_cell (j := 1) hQ5 rfl
    have q2 := hp_cell (j := 2) hQ5 rfl
    have r0 := hp_cell (j := 0) hR5 rfl
    have r1 := hp_cell (j := 1) hR5 rfl
    have r2 := hp_cell (j := 2) hR5 rfl
    clear hal hB4 hB5 hQ5 hR5
    go_wp2_with fail
    refine (same14_err 4 (by decide) (by decide) 0 0 none 0 0 _).mono ?_
    rintro e w6 ⟨rfl, hB6⟩
    have HF := Lib.hid (HB5.out.trans (hB6.mono HB5.out.size))
    clear hB6
    go_wp2_with fail
    go_ret
    exact ⟨rfl, HF.out⟩
  | true =>
    obtain ⟨c', hG, hpx⟩ := hgood hmk
    rw [hG] at hDe hRe
    have HDE := Lib.hid hDe
    have HRE := Lib.hid hRe
    have HPX : Hid (∀ t, t < m → ∀ k, k < 4 → ((c' (4 * t + k) : Nat) : Int) = prtV (vv t % 2 ^ bits) (f k)) := Lib.hid (fun t ht k hk => by rw [hpx t ht k hk, many_px hmk hk, hmk4 k hk])
    clear hown hBy hn9 hc9 hA9 hMD hbw hY hn4 hn4b hbh hbad hgood hmk4 hmk hG hDe hRe HS HN9 hpx
    generalize gl (fileM m bits f vv) = d at *
    go_wp2_with fail
    refine HDE.out.mono ?_
    rintro e wa ⟨⟨hBa, ⟨_, A2, cap2, k1, k2, rfl, hO⟩ | ⟨h, _⟩⟩, hsm⟩
    rotate_left
    · exact absurd rfl h
    have hs := hsm (by trivial)
    rw [← HN4.out] at k1 hO ⊢
    dsimp only at hO
    have hmb : mayB (m : Nat) (Y : Nat) n4 = true := by
      unfold mayB
      exact decide_eq_true ⟨hs, by rw [HN4.out]; simp [Int.mul_assoc]⟩
    have HMB := Lib.hid hmb
    have hB2 := hBa
    clear HDE hsm hs hmb
    obtain ⟨pb, hpb⟩ : ∃ pb, pb = wa.heap.size := ⟨_, rfl⟩
    have hal : Below wa.heap.size wa (wa.alloc (.cells #[.int .i64 (m : Nat), .int .i64 (Y : Nat), .slice A2 n4 cap2] 26)) := (Below.refl _ wa).alloc (Nat.le_refl _) _
    have HQ := Lib.hid (hp_new0 wa (.cells #[.int .i64 (m : Nat), .int .i64 (Y : Nat), .slice A2 n4 cap2] 26))
    have HO := Lib.hid (hO.below hal)
    have hB3 := hBa.trans (hal.mono hBa.size)
    have HP3 := Lib.hid (HBY.out.below hB3)
    have HST3 := Lib.hid (HST9.out.below hB3)
    rw [← hpb] at HQ
    clear hal hO hB3 hBa hB2 HBY HST9
    go_wp2_with fail
    rw [← hpb]
    generalize wa.alloc (.cells #[.int .i64 (m : Nat), .int .i64 (Y : Nat), .slice A2 n4 cap2] 26) = w3 at *
    clear hpb
    refine (HRE.out _ HP3.out).mono ?_
    rintro e w4 ⟨hB4, ⟨_, A4, cap4, k3, k4, rfl, hO4⟩ | ⟨h0, _⟩⟩
    rotate_left
    · exact absurd rfl h0
    rw [← HN4.out] at k3 hO4 ⊢
    have hal : Below w4.heap.size w4 (w4.alloc (.cells #[.int .i64 (m : Nat), .int .i64 (Y : Nat), .slice A4 n4 cap4] 26)) := (Below.refl _ w4).alloc (Nat.le_refl _) _
    have hB5 := hB4.trans (hal.mono hB4.size)
    have HQ5 := Lib.hid (hp_below HQ.out hB5 (lt_heap HQ.out))
    have hR5 := hp_new0 w4 (.cells #[.int .i64 (m : Nat), .int .i64 (Y : Nat), .slice A4 n4 cap4] 26)
    have HO5 := Lib.hid (HO.out.below hB5).pix
    have HO6 := Lib.hid (hO4.below hal).pix
    have HST5 := Lib.hid (HST3.out.below hB5)
    have q0 := hp_cell (j := 0) HQ5.out rfl
    have q1 := hp_cell (j := 1) HQ5.out rfl
    have q2 := hp_cell (j := 2) HQ5.out rfl
    have r0 := hp_cell (j := 0) hR5 rfl
    have r1 := hp_cell (j := 1) hR5 rfl
    have r2 := hp_cell (j := 2) hR5 rfl
    clear hal hB4 hB5 hR5 hO4 HRE HP3 HST3 HO HQ
    go_wp2_with fail
    generalize w4.alloc (.cells #[.int .i64 (m : Nat), .int .i64 (Y : Nat), .slice A4 n4 cap4] 26) = w5 at *
    refine (same14_ok (m : Nat) (Y : Nat) A2 n4 cap2 c' (m : Nat) (Y : Nat) A4 n4 cap4 c' (by unfold In64; omega) (by unfold In64; omega) (by unfold In64; omega) (by unfold In64; omega) k1 k2 k3 k4 _ HO5.out HO6.out).mono ?_
    rintro e w6 ⟨rfl, hB6⟩
    rw [same_self18 c' HMB.out]
    have HS6 : Hid (w6.heap[pb]? = some (.cells #[.int .i64 (m : Nat), .int .i64 (Y : Nat), .slice A2 n4 cap2] 26 (0, 0)) ∧ Pix w6 A2 n4 c' ∧ StM xb bx A m vv w w6) := Lib.hid ⟨hp_below HQ5.out hB6 (lt_heap HQ5.out), HO5.out.below hB6, HST5.out.below hB6⟩
    clear hB6 q0 q1 q2 r0 r1 r2 HO5 HO6 HST5 HQ5 k3 k4
    go_wp2_with fail
    go_loopw [18] (fun s wr => ∃ i : Nat, i ≤ m ∧ s = .int .i64 (i : Nat) ∧ wr.heap[pb]? = some (.cells #[.int .i64 (m : Nat), .int .i64 (Y : Nat), .slice A2 n4 cap2] 26 (0, 0)) ∧ Pix wr A2 n4 c' ∧ StM xb bx A m vv w wr) (fun s _ => m - (intOf s).toNat)
    case atStart => exact ⟨0, by omega, rfl, HS6.out⟩
    case round =>
      clear HS6
      obtain ⟨i, hi, rfl, hS⟩ := hrel
      have HS := Lib.hid hS
      clear hS
      by_cases hin : i < m
      · obtain ⟨y, hy⟩ : ∃ y, y = vv i := ⟨_, rfl⟩
        have hy32 : y < 4294967296 := by rw [hy]; exact HVV.out i
        obtain ⟨bk, of, hAe, hbk, hcl⟩ := HS.out.2.2.arg (by omega)
        have c0 := hcl i hin
        rw [← hy] at c0
        obtain ⟨x, hx⟩ : ∃ x, x = y % 2 ^ bits := ⟨_, rfl⟩
        have hx32 : x < 4294967296 := by rw [hx]; exact Nat.lt_of_le_of_lt (Nat.mod_le _ _) hy32
        have HX := Lib.hid hx
        have hpx := HPX.out i hin
        rw [← hy, ← hx] at hpx
        have HPI := Lib.hid hpx
        obtain ⟨q4, hq4⟩ : ∃ q4, q4 = 4 * i := ⟨_, rfl⟩
        rw [← hq4] at HPI
        have e4 : (4 : Int) * (i : Int) = (q4 : Int) := by omega
        have hq4b : q4 + 4 ≤ n4 := by have := HN4B.out; omega
        subst hAe
        clear hcl hbk hx hpx hy hq4
        go_upto_if 143 with fail
        clear c0
        go_cut [19] (fun s wx => s = .int .u32 (x : Nat) ∧ wx = wr)
        case first =>
          cases wd with
          | true =>
            have HXY : Hid (y = x) := Lib.hid (by
              have h1 := HX.out
              have h2 := HBS.out
              simp only [if_true] at h2
              rw [h2] at h1
              omega)
            go_wp2_with fail
            go_meet
            exact ⟨by rw [← HXY.out], rfl⟩
          | false =>
            have hand := and16M y hy32
            have HXY : Hid (y % 65536 = x) := Lib.hid (by
              have h1 := HX.out
              have h2 := HBS.out
              simp only [Bool.false_eq_true, if_false] at h2
              rw [h2] at h1
              omega)
            rw [HXY.out] at hand
            go_wp2_with fail
            go_meet
            exact ⟨rfl, rfl⟩
        case rest =>
        obtain ⟨rfl, hwc⟩ := hcut
        obtain rfl : wr = wc := hwc.symm
        clear hwc HX hy32
        go_wp2_with fail
        go_loopw [20] (fun s wX => ∃ k : Nat, k ≤ 4 ∧ s = .int .i64 (k : Nat) ∧ wX.heap[pb]? = some (.cells #[.int .i64 (m : Nat), .int .i64 (Y : Nat), .slice A2 n4 cap2] 26 (0, 0)) ∧ Pix wX A2 n4 c' ∧ StM xb bx (some ⟨bk, of, none⟩) m vv w wX) (fun s _ => 4 - (intOf s).toNat)
        case atStart => exact ⟨0, by omega, rfl, HS.out⟩
        case round =>
          clear HS
          obtain ⟨k, hk, rfl, hS⟩ := hrel
          have HS := Lib.hid hS
          clear hS
          by_cases hk4 : k < 4
          · have hcf : bx[k]? = some (.int .u32 (f k : Nat)) := by
              rw [HBX.out]
              have h : k = 0 ∨ k = 1 ∨ k = 2 ∨ k = 3 := by omega
              rcases h with rfl | rfl | rfl | rfl <;> rfl
            have c0 := hp_cell HS.out.2.2.box hcf
            have hp := HPI.out k hk4
            obtain ⟨fk, hfk⟩ : ∃ fk, fk = f k := ⟨_, rfl⟩
            have hfk32 : fk < 4294967296 := by rw [hfk]; exact HF.out k
            rw [← hfk] at c0 hp
            obtain ⟨j9, hj9⟩ : ∃ j9, j9 = q4 + k := ⟨_, rfl⟩
            rw [← hj9] at hp
            obtain ⟨p, hpe⟩ : ∃ p, p = c' j9 := ⟨_, rfl⟩
            rw [← hpe] at hp
            obtain ⟨r, hr⟩ : ∃ r, r = runM fk := ⟨_, rfl⟩
            have hrl := runM_le fk
            rw [prtV, ← hr] at hp
            rw [← hr] at hrl
            have HRR := Lib.hid hr
            have HPE := Lib.hid hpe
            have HJ9 := Lib.hid hj9
            have hj9b : j9 < n4 := by omega
            have e5 : (q4 : Int) + (k : Int) = (j9 : Int) := by omega
            clear hcf hfk hj9 hpe hr
            go_wp2_with fail
            refine (run_prog fk hfk32 _ (HTW.out.below HS.out.2.2.bel)).mono ?_
            rintro e w8 ⟨rfl, q, rfl⟩
            rw [← HRR.out]
            obtain ⟨at_, n, ok⟩ := r
            dsimp only at hp hrl ⊢
            have hdr : Below wr.heap.size wr (wr.drewN q) := below_drewN (Below.refl _ _) q
            have HS8 : Hid ((wr.drewN q).heap[pb]? = some (.cells #[.int .i64 (m : Nat), .int .i64 (Y : Nat), .slice A2 n4 cap2] 26 (0, 0)) ∧ Pix (wr.drewN q) A2 n4 c' ∧ StM xb bx (some ⟨bk, of, none⟩) m vv w (wr.drewN q)) := Lib.hid ⟨hp_below HS.out.1 hdr (lt_heap HS.out.1), HS.out.2.1.below hdr, HS.out.2.2.below hdr⟩
            clear HRR hdr HS c0
            generalize wr.drewN q = w8 at *
            go_upto_if 158 with fail
            go_cut [24] (fun s wx => s = .int .u16 (p : Nat) ∧ wx = w8)
            case first =>
              cases ok with
              | false =>
                have HP5 : Hid ((65535 : Int) = (p : Int)) := Lib.hid (by simpa using hp.symm)
                clear hp
                go_wp2_with fail
                go_meet
                exact ⟨by rw [← HP5.out], rfl⟩
              | true =>
                simp only [if_true] at hp
                have hcv : (x : Int) / 2 ^ at_ = ((x / 2 ^ at_ : Nat) : Int) := by simp
                obtain ⟨z, hz⟩ : ∃ z, z = x / 2 ^ at_ := ⟨_, rfl⟩
                have hz32 : z < 4294967296 := by rw [hz]; exact Nat.lt_of_le_of_lt (Nat.div_le_self _ _) hx32
                rw [← hz] at hcv hp
                have HBM := Lib.hid hp
                have h2n : 2 ^ n ≤ 2 ^ 32 := Nat.pow_le_pow_right (by omega) (by omega)
                have h2p : 0 < 2 ^ n := Nat.pow_pos (by omega)
                have hand := i64_and_nat z (2 ^ n - 1) (by omega) (by omega)
                rw [Nat.and_two_pow_sub_one_eq_mod, show ((2 ^ n - 1 : Nat) : Int) = 2 ^ n - 1 by rw [Int.ofNat_sub h2p]; simp] at hand
                have hw1 : wrap64 (wrap64 (2 ^ n) - 1) = 2 ^ n - 1 := by
                  have e : (2 : Int) ^ n = ((2 ^ n : Nat) : Int) := by simp
                  rw [e, IntWalk.wrap64_in ((2 ^ n : Nat) : Int) (by omega), IntWalk.wrap64_in _ (by omega)]
                rw [← hw1] at hand
                have hzn : z % 2 ^ n ≤ z := Nat.mod_le _ _
                have HAND := Lib.hid hand
                clear hp hz h2n h2p hw1 hand
                go_wp2_with fail
                rw [HAND.out]
                refine (mask12 _ _ (by omega) (by omega) _).mono ?_
                rintro e _ ⟨rfl, rfl⟩
                rw [← HBM.out]
                go_wp2_with fail
                go_meet
                exact ⟨rfl, rfl⟩
            case rest =>
            obtain ⟨rfl, hwc⟩ := hcut
            obtain rfl : w8 = wc := hwc.symm
            obtain ⟨b2, o2, hA2e, hb2, hpc⟩ := HS8.out.2.1 (by omega)
            have c1 := hpc j9 hj9b
            rw [← HPE.out] at c1
            have c2 := hp_cell (j := 2) HS8.out.1 rfl
            rw [hA2e] at c2
            clear hwc hp hpc hb2 hA2e
            go_wp2_with fail
            go_roundw
            case rel => exact ⟨k + 1, hk4, by go_num, HS8.out⟩
            case measure => simp [intOf]; omega
          · obtain rfl : k = 4 := by omega
            go_wp2_with fail
            go_roundw
            case rel => exact ⟨i + 1, hin, by go_num, HS.out⟩
            case measure => simp [intOf]; omega
      · obtain rfl : m = i := by omega
        have HBx := Lib.hid HS.out.2.2.bel
        clear HS
        go_wp2_with fail
        go_ret
        exact ⟨rfl, HBx.out⟩
end Go.Proofs.YtdooefnckdklmaaDoor
