/- BmpreadSmall: reading the file back. -/
import Derived.Test.YtdooefnckdklmaaDoorM25

namespace Go.Proofs.YtdooefnckdklmaaDoor
set_option maxRecDepth 100000
set_option linter.unusedVariables false
open Go.ChangeShapes Go.WideShapes Go.ChangeAt Go.RowKit

theorem pow_S {bits : Nat} (h : bits = 1 ∨ bits = 4 ∨ bits = 8) : 2 ≤ 2 ^ bits ∧ 2 ^ bits ≤ 256 := by rcases h with rfl | rfl | rfl <;> decide
noncomputable def tailS : Code := ((Tryd.f7.body.bind (fromRegion 41)).getD .skip)
set_option maxRecDepth 1000000 in
set_option maxHeartbeats 8000000 in
theorem small_tail (n0 n1 n2 n3 : Nat) (h3 : n3 < 256) (A : Option Addr) (m cap : Nat) (b : Nat → Nat) (HBB : Hid (∀ i, b i < 256)) (hm : m ≤ cap) (hcap : cap ≤ 2 ^ 63 - 1) (hm0 : ¬m = 0) (hm1 : ¬1000 < m) (w : World) (HTW : Hid (TabW w)) (xb : Nat) (bx : Array Value) (HBX : Hid (bx = #[.int .u8 n0, .int .u8 n1, .int .u8 n2, .int .u8 n3])) (bits W M G O V nb : Nat) (dn : Bool) (HBS : Hid (bits = 1 ∨ bits = 4 ∨ bits = 8)) (hb8 : bits ≤ 8) (hW1 : 1 ≤ W ∧ W ≤ 40) (hM1 : 1 ≤ M ∧ M ≤ 16 ∧ M ≤ 2 ^ bits) (hG4 : G ≤ 4) (H64 : Hid ((Go.bits .and .u8 (n3 : Int) 64 == 64) = dn)) (pre : List Nat) (HPRE : Hid (pre = fL 54 (hF (psS W bits M G (hnS dn))))) (HO : Hid (O = 54 + 4 * M + G)) (hOb : O ≤ 122) (HV : Hid (V = bmWide W bits)) (hVb : V ≤ 40) (Kt : Nat → Nat) (HKT : Hid (∀ t, Kt t = b (t % m) % 2 ^ bits)) (v : Value) (wr : World) (HS : Hid (RwS nb xb bx A m b w (O + 3 * V) (pre ++ (colS M ++ (List.replicate G 0 ++ rowsS bits W (fun y x => Kt (y * W + x)) 3))) v wr)) (Kx : Act → World → Prop) (v0 v3 v4 v7 v9 v11 v12 v13 v14 v16 v17 v18 v19 v20 v21 v22 v23 v24 v25 v26 v27 v28 v29 v30 v31 v32 v33 v34 v35 v36 v37 v38 v39 v40 v41 v42 v43 v44 v45 v46 v47 v48 v49 v50 v51 v52 v53 v54 v55 v56 v57 v58 v59 v60 v61 v62 v63 v64 v65 v66 v67 v68 v69 v70 v71 v72 v73 v74 v75 v76 v77 v78 v79 v80 v81 v82 v83 v84 v85 v86 v87 v88 v89 v90 v91 v92 v93 v94 v95 v96 v97 v98 v99 v100 v101 v102 v103 v104 v105 v106 v107 v108 v109 v110 v111 v112 v113 v114 v115 v116 v117 v118 v119 v120 v121 v122 v123 v124 v125 v126 v127 v128 v129 v130 v131 v132 v133 v134 v135 v136 v137 v138 v139 v140 v141 v142 v143 v144 v145 v146 v147 v148 v149 v150 v151 v152 v153 v154 v155 v156 v157 v158 v159 v160 v161 v162 v163 v164 v165 v166 v167 v168 v169 v170 v171 v172 v173 v174 v175 v176 v177 v178 v179 v180 v181 v182 v183 v184 v185 v186 v187 v188 v189 v190 v191 v192 v193 v194 v195 v196 v197 v198 v199 v200 v201 v202 v203 v204 v205 v206 v207 v208 v209 v210 v211 v212 v213 v214 v215 v216 v217 v218 v219 v220 v221 v222 v223 v224 v225 v226 v227 v228 v229 v230 v231 v232 v233 v234 v235 v236 v237 v238 v239 v240 v241 v242 v243 v244 v245 v246 v247 v248 v249 v250 v251 v252 v253 v254 v255 v256 v257 v258 v259 v260 v261 v262 v263 v264 v265 v266 v267 v268 v269 v270 v271 v272 v273 v274 v275 v276 v277 v278 v279 v280 : Value) :
    Code.wp Tryd.prog tailS (Exit.then Kx (bodyPost Tryd.prog Tryd.f7 (fun e w' => e = .returned (.bool true) ∧ Below w.heap.size w w'))) ⟨#[v0, .slice A m cap, .pointer (some ⟨xb, 0, none⟩), v3, v4, .int .i64 (bits : Nat), .int .i64 (W : Nat), v7, .int .i64 3, v9, v, v11, v12, v13, v14, .bool (anyK M Kt (3 * W)), v16, v17, v18, v19, v20, v21, v22, v23, v24, v25, v26, v27, v28, v29, v30, v31, v32, v33, v34, v35, v36, v37, v38, v39, v40, v41, v42, v43, v44, v45, v46, v47, v48, v49, v50, v51, v52, v53, v54, v55, v56, v57, v58, v59, v60, v61, v62, v63, v64, v65, v66, v67, v68, v69, v70, v71, v72, v73, v74, v75, v76, v77, v78, v79, v80, v81, v82, v83, v84, v85, v86, v87, v88, v89, v90, v91, v92, v93, v94, v95, v96, v97, v98, v99, v100, v101, v102, v103, v104, v105, v106, v107, v108, v109, v110, v111, v112, v113, v114, v115, v116, v117, v118, v119, v120, v121, v122, v123, v124, v125, v126, v127, v128, v129, v130, v131, v132, v133, v134, v135, v136, v137, v138, v139, v140, v141, v142, v143, v144, v145, v146, v147, v148, v149, v150, v151, v152, v153, v154, v155, v156, v157, v158, v159, v160, v161, v162, v163, v164, v165, v166, v167, v168, v169, v170, v171, v172, v173, v174, v175, v176, v177, v178, v179, v180, v181, v182, v183, v184, v185, v186, v187, v188, v189, v190, v191, v192, v193, v194, v195, v196, v197, v198, v199, v200, v201, v202, v203, v204, v205, v206, v207, v208, v209, v210, v211, v212, v213, v214, v215, v216, v217, v218, v219, v220, v221, v222, v223, v224, v225, v226, v227, v228, v229, v230, v231, v232, v233, v234, v235, v236, v237, v238, v239, v240, v241, v242, v243, v244, v245, v246, v247, v248, v249, v250, v251, v252, v253, v254, v255, v256, v257, v258, v259, v260, v261, v262, v263, v264, v265, v266, v267, v268, v269, v270, v271, v272, v273, v274, v275, v276, v277, v278, v279, v280], []⟩ wr := by
  conv => arg 2; whnf
  obtain ⟨K, hK⟩ : ∃ K : Nat → Nat → Nat, K = fun y x => Kt (y * W + x) := ⟨_, rfl⟩
  have hown := HS.out.own
  rw [← hK, HPRE.out] at hown
  have hfl := fileS_len W bits M G (hnS dn) K
  rw [← HO.out, ← HV.out] at hfl
  have hown2 : wr.ownsRow nb 5 1 v (O + 3 * V) (cellsB (fileS W bits M G (hnS dn) K)) := hown
  obtain ⟨-, A9, c9, rfl, -, -, -⟩ := Sl.of_own hown2
  obtain ⟨hBy, hn9, hc9, hA9⟩ := byt_own hown2 hfl
  have hKl : ∀ y x, K y x < 2 ^ bits := fun y x => by
    rw [hK]
    show Kt (y * W + x) < 2 ^ bits
    rw [HKT.out]
    exact Nat.mod_lt _ (Nat.pow_pos (by omega))
  obtain ⟨hbw, hbh, hbad, hgood⟩ := small_read W bits M G dn K hW1 HBS.out hM1 hG4 hKl _ rfl (O + 3 * V) (by rw [HO.out, HV.out])
  have hDe := decode_b A9 (O + 3 * V) c9 _ (gl_lt (fileS_lt hM1.2.1)) hn9 hc9 wr hA9 hBy (HTW.out.below HS.out.st.bel)
  obtain ⟨N9, hN9⟩ : ∃ N9, N9 = O + 3 * V := ⟨_, rfl⟩
  rw [← hN9] at hDe hbad hgood ⊢
  have hN9b : N9 ≤ 1000 := by omega
  have HST9 := Lib.hid HS.out.st
  have hdiv : ∀ t, t < 3 * W → t / W < 3 ∧ t % W < W ∧ t / W * W + t % W = t := fun t ht => by
    refine ⟨Nat.div_lt_of_lt_mul (by rw [Nat.mul_comm]; exact ht), Nat.mod_lt _ (by omega), ?_⟩
    rw [Nat.mul_comm]
    exact Nat.div_add_mod t W
  cases han : anyK M Kt (3 * W) with
  | true =>
    obtain ⟨t, ht, htM⟩ := anyK_true han
    obtain ⟨d1, d2, d3⟩ := hdiv t ht
    have hG := hbad ⟨t / W, t % W, d1, d2, by rw [hK]; show M ≤ Kt (t / W * W + t % W); rw [d3]; exact htM⟩
    rw [hG] at hDe
    have HDE := Lib.hid hDe
    clear hK hown hfl hown2 hBy hn9 hc9 hA9 hKl hbw hbh hbad hgood hDe hN9 hdiv han ht htM d1 d2 d3 hG HS
    go_wp2_with fail
    refine HDE.out.mono ?_
    rintro e wa ⟨hBa, ⟨h, _⟩ | ⟨_, rfl⟩⟩
    · exact absurd h (by decide)
    have HBa := Lib.hid (HST9.out.below hBa).bel
    clear hBa HDE
    have hal : Below wa.heap.size wa (wa.alloc (.cells #[.int .i64 0, .int .i64 0, .slice none 0 0] 26)) := (Below.refl _ wa).alloc (Nat.le_refl _) _
    have k2 := hp_cell (j := 2) (hp_new0 wa (.cells #[.int .i64 0, .int .i64 0, .slice none 0 0] 26)) rfl
    have HBb := Lib.hid (HBa.out.trans (hal.mono HBa.out.size))
    clear hal
    go_wp2_with fail
    go_ret
    exact ⟨rfl, HBb.out⟩
  | false =>
    obtain ⟨cc, hG, hpx⟩ := hgood (fun y x hy hx => by
      rw [hK]
      have h1 := Nat.mul_le_mul_right W (show y ≤ 2 by omega)
      exact anyK_false han (y * W + x) (by omega))
    rw [hG] at hDe
    have HDE := Lib.hid hDe
    have HPX := Lib.hid (And.intro hbw (And.intro hbh hpx))
    have HKE : Hid (∀ y x, K y x = Kt (y * W + x)) := Lib.hid (fun y x => by rw [hK])
    have HKM : Hid (∀ y x, y < 3 → x < W → K y x < M) := Lib.hid (fun y x hy hx => by
      rw [hK]
      have h1 := Nat.mul_le_mul_right W (show y ≤ 2 by omega)
      exact anyK_false han (y * W + x) (by omega))
    clear hK hown hfl hown2 hBy hn9 hc9 hA9 hKl hbw hbh hbad hgood hDe hN9 hdiv han hG hpx HS
    go_wp2_with fail
    refine HDE.out.mono ?_
    rintro e wa ⟨hBa, ⟨_, _, A10, cap10, n4, hn4, hn10, hc10, rfl, hO10⟩ | ⟨h, _⟩⟩
    rotate_left
    · exact absurd rfl h
    obtain ⟨hbw, hbh, hpx⟩ := HPX.out
    obtain ⟨H, hH⟩ : ∃ H : Nat, H = 3 := ⟨_, rfl⟩
    rw [hbw, hbh, ← hH] at hn4
    rw [hbw, hbh, ← hH]
    have hmay : mayB (W : Nat) (H : Nat) n4 = true := by
      unfold mayB
      refine decide_eq_true ⟨?_, hn4⟩
      unfold sizeE
      have h2 : (268 : Int) ≤ 16384 / ((H : Nat) : Int) := by
        rw [Int.le_ediv_iff_mul_le (by omega)]
        omega
      rw [if_neg (by omega), if_neg (by omega)]
    have HMAY := Lib.hid hmay
    have hal : Below wa.heap.size wa (wa.alloc (.cells #[.int .i64 (W : Nat), .int .i64 (H : Nat), .slice A10 n4 cap10] 26)) := (Below.refl _ wa).alloc (Nat.le_refl _) _
    have hbb := hBa.trans (hal.mono hBa.size)
    have HS5 := Lib.hid (And.intro (hp_new0 wa (.cells #[.int .i64 (W : Nat), .int .i64 (H : Nat), .slice A10 n4 cap10] 26)) (And.intro (hO10.below hal).pix (HST9.out.below hbb)))
    have HPX2 := Lib.hid hpx
    have h3 : ((H : Int) != 3) = false := bne_eq_false_iff_eq.2 (by omega)
    have HH3 := Lib.hid hH
    clear hBa hal hbb hO10 hmay hn4 hpx hbw hbh HDE HPX HST9 hH
    go_upto_region 42 with fail
    obtain ⟨pb, hpb⟩ : ∃ pb, pb = wa.heap.size := ⟨_, rfl⟩
    rw [← hpb] at HS5 ⊢
    generalize wa.alloc (.cells #[.int .i64 (W : Nat), .int .i64 (H : Nat), .slice A10 n4 cap10] 26) = w5 at *
    clear hpb
    have k0 := hp_cell (j := 0) HS5.out.1 rfl
    have k1 := hp_cell (j := 1) HS5.out.1 rfl
    go_wp2_with fail
    clear k0 k1 h3
    go_loopw [23] (fun s wr => ∃ y : Nat, y ≤ 3 ∧ s = .int .i64 (y : Nat) ∧ wr.heap[pb]? = some (.cells #[.int .i64 (W : Nat), .int .i64 (H : Nat), .slice A10 n4 cap10] 26 (0, 0)) ∧ Pix wr A10 n4 cc ∧ StS xb bx A m b w wr) (fun s _ => 3 - (intOf s).toNat)
    case atStart => exact ⟨0, by omega, rfl, HS5.out⟩
    case round =>
      clear HS5
      obtain ⟨y, hy, rfl, hS⟩ := hrel
      have HS := Lib.hid hS
      clear hS
      by_cases hyH : y < 3
      · have ty : decide ((y : Int) < 3) = true := by simp; omega
        have ty' : decide (y < 3) = true := by simp; omega
        obtain ⟨a2, ha2⟩ : ∃ a2, a2 = 2 - y := ⟨_, rfl⟩
        have z1 : (2 : Int) - (y : Int) = (a2 : Int) := by omega
        obtain ⟨a, ha⟩ : ∃ a, a = if dn = true then y else 2 - y := ⟨_, rfl⟩
        have ha3 : a < 3 := by rw [ha]; split <;> omega
        have hay : bmY 3 dn a = y := by
          rw [ha]
          unfold bmY
          cases dn with
          | true => rfl
          | false => simp; omega
        have HA2 := Lib.hid ha2
        have HAE := Lib.hid ha
        have HAY := Lib.hid hay
        have k3 : wr.cell? ⟨xb, 3, none⟩ = some (.int .u8 (n3 : Nat)) := hp_cell HS.out.2.2.box (by rw [HBX.out]; rfl)
        clear ha2 ha hay
        go_upto_if 229 with fail
        clear k3 z1
        go_cut [24] (fun s wx => s = .int .i64 (a : Nat) ∧ wx = wr)
        case first =>
          cases dn with
          | true =>
            have q := H64.out
            have HYA : Hid (y = a) := Lib.hid (by rw [HAE.out]; rfl)
            go_wp2_with fail
            go_meet
            exact ⟨by rw [← HYA.out], rfl⟩
          | false =>
            have q := H64.out
            have HYA : Hid (a2 = a) := Lib.hid (by rw [HAE.out, HA2.out]; rfl)
            go_wp2_with fail
            go_meet
            exact ⟨by rw [← HYA.out], rfl⟩
        case rest =>
        obtain ⟨rfl, hwc⟩ := hcut
        obtain rfl : wr = wc := hwc.symm
        clear hwc
        obtain ⟨p, hp⟩ : ∃ p, p = a * W := ⟨_, rfl⟩
        have hpb2 : p ≤ 80 := by
          rw [hp]
          exact Nat.mul_le_mul (show a ≤ 2 by omega) hW1.2
        have hpI : (a : Int) * (W : Int) = (p : Int) := by rw [hp]; simp
        have HP := Lib.hid hp
        clear hp
        go_wp2_with fail
        go_loopw [25] (fun s wX => ∃ x : Nat, x ≤ W ∧ s = .int .i64 (x : Nat) ∧ wX.heap[pb]? = some (.cells #[.int .i64 (W : Nat), .int .i64 (H : Nat), .slice A10 n4 cap10] 26 (0, 0)) ∧ Pix wX A10 n4 cc ∧ StS xb bx A m b w wX) (fun s _ => W - (intOf s).toNat)
        case atStart => exact ⟨0, by omega, rfl, HS.out⟩
        case round =>
          clear HS
          obtain ⟨x, hx, rfl, hS⟩ := hrel
          have HS := Lib.hid hS
          clear hS
          by_cases hxX : x < W
          · obtain ⟨t, ht⟩ : ∃ t, t = p + x := ⟨_, rfl⟩
            have htI : (p : Int) + (x : Int) = (t : Int) := by omega
            have ht120 : t ≤ 120 := by omega
            obtain ⟨j, hj⟩ : ∃ j, j = t % m := ⟨_, rfl⟩
            have hjm : j < m := by rw [hj]; exact Nat.mod_lt _ (by omega)
            have g1 : (t : Int) % (m : Int) = (j : Int) := by rw [hj]; simp
            have g2 : Int.tmod (t : Int) (m : Int) = (j : Int) := by rw [Int.tmod_eq_emod_of_nonneg (by omega), g1]
            have g3 : ((m : Int) == 0) = false := beq_eq_false_iff_ne.2 (by omega)
            have hkt := HKT.out t
            rw [← hj] at hkt
            obtain ⟨bk, of, hAe, hbk, hcl⟩ := HS.out.2.2.arg (by omega)
            have c0 := hcl j hjm
            obtain ⟨vb, hv⟩ : ∃ vb, vb = b j := ⟨_, rfl⟩
            have hv8 : vb < 256 := by rw [hv]; exact HBB.out j
            rw [← hv] at c0 hkt
            have hal := and_low vb bits hv8 hb8
            rw [← hkt] at hal
            obtain ⟨kk, hkk⟩ : ∃ kk, kk = Kt t := ⟨_, rfl⟩
            have hKax : K a x = kk := by rw [HKE.out, ← HP.out, ← ht, hkk]
            have hkk16 : kk < 16 := by
              have h1 := HKM.out a x ha3 hxX
              rw [hKax] at h1
              omega
            obtain ⟨P, hP⟩ : ∃ P, P = 2 ^ bits := ⟨_, rfl⟩
            have hPb := pow_S HBS.out
            rw [← hP] at hPb hal
            obtain ⟨P1, hP1⟩ : ∃ P1, P1 = P - 1 := ⟨_, rfl⟩
            rw [← hP1, ← hkk] at hal
            have g4 : (P : Int) - 1 = (P1 : Int) := by omega
            have g5 : (2 : Int) ^ bits = (P : Int) := by rw [hP]; simp
            have g6 : IntKind.i64.wrap (2 ^ bits) = (P : Int) := by rw [g5]; exact IntWalk.i64_in _ (by omega)
            have g7 : IntKind.u16.wrap (kk : Int) = (kk : Int) := by rw [IntKind.wrap_u16]; omega
            have hb64 : bits < 64 := by omega
            have hpxx := fun i hi => HPX2.out a x ha3 hxX i hi
            rw [HAY.out, hKax] at hpxx
            have hg1 : getV (W : Nat) (H : Nat) n4 cc (x : Nat) (y : Nat) = .agg #[.int .u16 (((3 * kk + 3) * 257 : Nat) : Int), .int .u16 (((3 * kk + 2) * 257 : Nat) : Int), .int .u16 (((3 * kk + 1) * 257 : Nat) : Int), .int .u16 ((65535 : Nat) : Int)] := by
              have hp0 := hpxx 0 (by omega)
              rw [Nat.add_zero] at hp0
              rw [getV_xy HMAY.out hxX (by rw [HH3.out]; exact hyH), px, hp0, hpxx 1 (by omega), hpxx 2 (by omega), hpxx 3 (by omega)]
              rfl
            obtain ⟨v0, hv0⟩ : ∃ v0, v0 = (3 * kk + 3) * 257 := ⟨_, rfl⟩
            obtain ⟨v1, hv1⟩ : ∃ v1, v1 = (3 * kk + 2) * 257 := ⟨_, rfl⟩
            obtain ⟨v2, hv2⟩ : ∃ v2, v2 = (3 * kk + 1) * 257 := ⟨_, rfl⟩
            obtain ⟨v3, hv3⟩ : ∃ v3 : Nat, v3 = 65535 := ⟨_, rfl⟩
            rw [← hv0, ← hv1, ← hv2, ← hv3] at hg1
            have HG1 := Lib.hid hg1
            have HI1 := Lib.hid (inB_xy HMAY.out hxX (show y < H by rw [HH3.out]; exact hyH))
            obtain ⟨q3, hq3⟩ : ∃ q3, q3 = 3 * kk := ⟨_, rfl⟩
            obtain ⟨s3, hs3⟩ : ∃ s3, s3 = q3 + 3 := ⟨_, rfl⟩
            obtain ⟨s2, hs2⟩ : ∃ s2, s2 = q3 + 2 := ⟨_, rfl⟩
            obtain ⟨s1, hs1⟩ : ∃ s1, s1 = q3 + 1 := ⟨_, rfl⟩
            have e0 : (3 : Int) * (kk : Int) = (q3 : Int) := by omega
            have e1 : (q3 : Int) + 3 = (s3 : Int) := by omega
            have e2 : (q3 : Int) + 2 = (s2 : Int) := by omega
            have e3 : (q3 : Int) + 1 = (s1 : Int) := by omega
            have e4 : (s3 : Int) * 257 = (v0 : Int) := by omega
            have e5 : (s2 : Int) * 257 = (v1 : Int) := by omega
            have e6 : (s1 : Int) * 257 = (v2 : Int) := by omega
            have hvb : q3 ≤ 45 ∧ s3 ≤ 48 ∧ s2 ≤ 48 ∧ s1 ≤ 48 ∧ v0 ≤ 13000 ∧ v1 ≤ 13000 ∧ v2 ≤ 13000 := by omega
            have HV3 : Hid (v3 = 65535) := Lib.hid hv3
            have hEp := fun W9 => run_eqP (v0, v1, v2, v3) (v0, v1, v2, v3) W9
            simp only [decide_true] at hEp
            have r0 := hp_cell (j := 0) HS.out.1 rfl
            have r1 := hp_cell (j := 1) HS.out.1 rfl
            have r2 := hp_cell (j := 2) HS.out.1 rfl
            subst hAe
            clear hcl hv hkt hkk hP hP1 hj ht g5 hKax hpxx hg1 hv0 hv1 hv2 hv3 hq3 hs3 hs2 hs1 hbk
            go_upto_region 56 with fail
            clear htI g1 g2 g3 g4 g6 c0 hal g7
            go_wp2_with fail
            refine (get_ref (W : Nat) (H : Nat) A10 n4 cap10 cc (x : Nat) (y : Nat) (by unfold In64; omega) (by unfold In64; have := HH3.out; omega) hn10 hc10 _ HS.out.2.1).mono ?_
            rintro e w8 ⟨hB8, rfl⟩
            rw [HG1.out, HI1.out]
            have hal1 : Below w8.heap.size w8 (w8.alloc (.cells #[.int .u16 (v0 : Nat), .int .u16 (v1 : Nat), .int .u16 (v2 : Nat), .int .u16 (v3 : Nat)] 43)) := (Below.refl _ w8).alloc (Nat.le_refl _) _
            have hal2 : Below (w8.alloc (.cells #[.int .u16 (v0 : Nat), .int .u16 (v1 : Nat), .int .u16 (v2 : Nat), .int .u16 (v3 : Nat)] 43)).heap.size (w8.alloc (.cells #[.int .u16 (v0 : Nat), .int .u16 (v1 : Nat), .int .u16 (v2 : Nat), .int .u16 (v3 : Nat)] 43)) ((w8.alloc (.cells #[.int .u16 (v0 : Nat), .int .u16 (v1 : Nat), .int .u16 (v2 : Nat), .int .u16 (v3 : Nat)] 43)).alloc (.cells #[.int .u16 (v0 : Nat), .int .u16 (v1 : Nat), .int .u16 (v2 : Nat), .int .u16 (v3 : Nat)] 43)) := (Below.refl _ _).alloc (Nat.le_refl _) _
            have hX9 := hp_below (hp_new0 w8 (.cells #[.int .u16 (v0 : Nat), .int .u16 (v1 : Nat), .int .u16 (v2 : Nat), .int .u16 (v3 : Nat)] 43)) hal2 (lt_heap (hp_new0 w8 (.cells #[.int .u16 (v0 : Nat), .int .u16 (v1 : Nat), .int .u16 (v2 : Nat), .int .u16 (v3 : Nat)] 43)))
            have hY9 := hp_new0 (w8.alloc (.cells #[.int .u16 (v0 : Nat), .int .u16 (v1 : Nat), .int .u16 (v2 : Nat), .int .u16 (v3 : Nat)] 43)) (.cells #[.int .u16 (v0 : Nat), .int .u16 (v1 : Nat), .int .u16 (v2 : Nat), .int .u16 (v3 : Nat)] 43)
            have hbb := hB8.trans ((hal1.trans (hal2.mono hal1.size)).mono hB8.size)
            have HS8 := Lib.hid (And.intro (hp_below HS.out.1 hbb (lt_heap HS.out.1)) (And.intro (HS.out.2.1.below hbb) (HS.out.2.2.below hbb)))
            rw [show (w8.alloc (.cells #[.int .u16 (v0 : Nat), .int .u16 (v1 : Nat), .int .u16 (v2 : Nat), .int .u16 (v3 : Nat)] 43)).heap.size = w8.heap.size + 1 by simp] at hY9
            have a0 := hp_cell (j := 0) hX9 rfl
            have a1 := hp_cell (j := 1) hX9 rfl
            have a2 := hp_cell (j := 2) hX9 rfl
            have a3 := hp_cell (j := 3) hX9 rfl
            have b0 := hp_cell (j := 0) hY9 rfl
            have b1 := hp_cell (j := 1) hY9 rfl
            have b2 := hp_cell (j := 2) hY9 rfl
            have b3 := hp_cell (j := 3) hY9 rfl
            have e7 : (65535 : Int) = (v3 : Int) := by have := HV3.out; omega
            clear hB8 hal1 hal2 hbb HS hX9 hY9 r0 r1 r2
            go_upto_region 58 with fail
            clear e0 e1 e2 e3 e4 e5 e6 e7
            obtain ⟨yb, hyb⟩ : ∃ yb, yb = w8.heap.size := ⟨_, rfl⟩
            rw [← hyb] at a0 a1 a2 a3 b0 b1 b2 b3
            try rw [show (w8.alloc (.cells #[.int .u16 (v0 : Nat), .int .u16 (v1 : Nat), .int .u16 (v2 : Nat), .int .u16 (v3 : Nat)] 43)).heap.size = yb + 1 by rw [hyb]; simp]
            try rw [← hyb]
            generalize (w8.alloc (.cells #[.int .u16 (v0 : Nat), .int .u16 (v1 : Nat), .int .u16 (v2 : Nat), .int .u16 (v3 : Nat)] 43)).alloc (.cells #[.int .u16 (v0 : Nat), .int .u16 (v1 : Nat), .int .u16 (v2 : Nat), .int .u16 (v3 : Nat)] 43) = w9 at *
            clear hyb
            go_wp2_with fail
            go_roundw
            case rel => exact ⟨x + 1, hxX, by go_num, HS8.out⟩
            case measure => simp [intOf]; omega
          · obtain rfl : x = W := by omega
            go_wp2_with fail
            go_roundw
            case rel => exact ⟨y + 1, hyH, by go_num, HS.out⟩
            case measure => simp [intOf]; omega
      · obtain rfl : y = 3 := by omega
        have HBx := Lib.hid HS.out.2.2.bel
        clear HS
        go_wp2_with fail
        go_ret
        exact ⟨rfl, HBx.out⟩
end Go.Proofs.YtdooefnckdklmaaDoor
