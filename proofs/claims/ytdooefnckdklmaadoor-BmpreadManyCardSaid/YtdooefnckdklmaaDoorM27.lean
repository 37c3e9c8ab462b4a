/- BmpreadSmall: the rows. -/
import Derived.Test.YtdooefnckdklmaaDoorM26

namespace Go.Proofs.YtdooefnckdklmaaDoor
set_option maxRecDepth 100000
set_option linter.unusedVariables false
open Go.ChangeShapes Go.WideShapes Go.ChangeAt Go.RowKit

noncomputable def blkS : Code := ((Tryd.f7.body.bind (blockOf 6)).getD .skip)
set_option maxRecDepth 1000000 in
set_option maxHeartbeats 8000000 in
theorem small_rows (A : Option Addr) (m cap : Nat) (b : Nat → Nat) (HBB : Hid (∀ i, b i < 256)) (hm : m ≤ cap) (hcap : cap ≤ 2 ^ 63 - 1) (hm0 : ¬m = 0) (hm1 : ¬1000 < m) (w : World) (HAW : Hid (∀ a, A = some a → 0 < m → a.block < w.heap.size)) (xb : Nat) (bx : Array Value) (bits W M G O V nb : Nat) (hwx2 : w.heap.size ≤ xb ∧ xb < nb) (HBS : Hid (bits = 1 ∨ bits = 4 ∨ bits = 8)) (hb8 : bits ≤ 8) (hW1 : 1 ≤ W ∧ W ≤ 40) (hM1 : 1 ≤ M ∧ M ≤ 16 ∧ M ≤ 2 ^ bits) (hG4 : G ≤ 4) (pre : List Nat) (hOb : O ≤ 122) (HV : Hid (V = bmWide W bits)) (hVb : V ≤ 40) (Kt : Nat → Nat) (HKT : Hid (∀ t, Kt t = b (t % m) % 2 ^ bits)) (vz : Value) (wz : World)
    (HZ0 : Hid (RwS nb xb bx A m b w (O + 0 * V) (pre ++ (colS M ++ (List.replicate G 0 ++ rowsS bits W (fun y x => Kt (y * W + x)) 0))) vz wz ∧ nb ≤ wz.heap.size)) (Q : Exit → Act → World → Prop) (v0 v3 v4 v9 v11 v12 v13 v14 v17 v18 v19 v20 v21 v22 v23 v24 v25 v26 v27 v28 v29 v30 v31 v32 v33 v34 v35 v36 v37 v38 v39 v40 v41 v42 v43 v44 v45 v46 v47 v48 v49 v50 v51 v52 v53 v54 v55 v56 v57 v58 v59 v60 v61 v62 v63 v64 v65 v66 v67 v68 v69 v70 v71 v72 v73 v74 v75 v76 v77 v78 v79 v80 v81 v82 v83 v84 v85 v86 v87 v88 v89 v90 v91 v92 v93 v94 v95 v96 v97 v98 v99 v100 v101 v102 v103 v104 v105 v106 v107 v108 v109 v110 v111 v112 v113 v114 v115 v116 v117 v118 v119 v120 v121 v122 v123 v124 v125 v126 v127 v128 v129 v130 v131 v132 v133 v134 v135 v136 v137 v138 v139 v140 v141 v142 v143 v144 v145 v146 v147 v148 v149 v150 v151 v152 v153 v154 v155 v156 v157 v158 v159 v160 v161 v162 v163 v164 v165 v166 v167 v168 v169 v170 v171 v172 v173 v174 v175 v176 v177 v178 v179 v180 v181 v182 v183 v184 v185 v186 v187 v188 v189 v190 v191 v192 v193 v194 v195 v196 v197 v198 v199 v200 v201 v202 v203 v204 v205 v206 v207 v208 v209 v210 v211 v212 v213 v214 v215 v216 v217 v218 v219 v220 v221 v222 v223 v224 v225 v226 v227 v228 v229 v230 v231 v232 v233 v234 v235 v236 v237 v238 v239 v240 v241 v242 v243 v244 v245 v246 v247 v248 v249 v250 v251 v252 v253 v254 v255 v256 v257 v258 v259 v260 v261 v262 v263 v264 v265 v266 v267 v268 v269 v270 v271 v272 v273 v274 v275 v276 v277 v278 v279 v280 : Value)
    (hnorm : ∀ (v : Value) (w' : World) (u17 u18 u19 u20 u138 u139 u140 u141 u142 u143 u144 u145 u146 u147 u148 u149 u150 u151 u152 u153 u154 u155 u156 u157 u158 u159 u160 u161 u162 u163 u164 u165 u166 u167 u168 u169 u170 u171 u172 u173 u174 u175 u176 u177 u178 u179 u180 u181 u182 u183 u184 u185 u186 u187 u188 : Value), Hid (RwS nb xb bx A m b w (O + 3 * V) (pre ++ (colS M ++ (List.replicate G 0 ++ rowsS bits W (fun y x => Kt (y * W + x)) 3))) v w') → Q .normal ⟨#[v0, .slice A m cap, .pointer (some ⟨xb, 0, none⟩), v3, v4, .int .i64 (bits : Nat), .int .i64 (W : Nat), .int .i64 (M : Nat), .int .i64 3, v9, v, v11, v12, v13, v14, .bool (anyK M Kt (3 * W)), .int .i64 3, u17, u18, u19, u20, v21, v22, v23, v24, v25, v26, v27, v28, v29, v30, v31, v32, v33, v34, v35, v36, v37, v38, v39, v40, v41, v42, v43, v44, v45, v46, v47, v48, v49, v50, v51, v52, v53, v54, v55, v56, v57, v58, v59, v60, v61, v62, v63, v64, v65, v66, v67, v68, v69, v70, v71, v72, v73, v74, v75, v76, v77, v78, v79, v80, v81, v82, v83, v84, v85, v86, v87, v88, v89, v90, v91, v92, v93, v94, v95, v96, v97, v98, v99, v100, v101, v102, v103, v104, v105, v106, v107, v108, v109, v110, v111, v112, v113, v114, v115, v116, v117, v118, v119, v120, v121, v122, v123, v124, v125, v126, v127, v128, v129, v130, v131, v132, v133, v134, v135, v136, v137, u138, u139, u140, u141, u142, u143, u144, u145, u146, u147, u148, u149, u150, u151, u152, u153, u154, u155, u156, u157, u158, u159, u160, u161, u162, u163, u164, u165, u166, u167, u168, u169, u170, u171, u172, u173, u174, u175, u176, u177, u178, u179, u180, u181, u182, u183, u184, u185, u186, u187, u188, v189, v190, v191, v192, v193, v194, v195, v196, v197, v198, v199, v200, v201, v202, v203, v204, v205, v206, v207, v208, v209, v210, v211, v212, v213, v214, v215, v216, v217, v218, v219, v220, v221, v222, v223, v224, v225, v226, v227, v228, v229, v230, v231, v232, v233, v234, v235, v236, v237, v238, v239, v240, v241, v242, v243, v244, v245, v246, v247, v248, v249, v250, v251, v252, v253, v254, v255, v256, v257, v258, v259, v260, v261, v262, v263, v264, v265, v266, v267, v268, v269, v270, v271, v272, v273, v274, v275, v276, v277, v278, v279, v280], []⟩ w') :
    Code.wp Tryd.prog blkS Q ⟨#[v0, .slice A m cap, .pointer (some ⟨xb, 0, none⟩), v3, v4, .int .i64 (bits : Nat), .int .i64 (W : Nat), .int .i64 (M : Nat), .int .i64 3, v9, vz, v11, v12, v13, v14, .bool false, .int .i64 0, v17, v18, v19, v20, v21, v22, v23, v24, v25, v26, v27, v28, v29, v30, v31, v32, v33, v34, v35, v36, v37, v38, v39, v40, v41, v42, v43, v44, v45, v46, v47, v48, v49, v50, v51, v52, v53, v54, v55, v56, v57, v58, v59, v60, v61, v62, v63, v64, v65, v66, v67, v68, v69, v70, v71, v72, v73, v74, v75, v76, v77, v78, v79, v80, v81, v82, v83, v84, v85, v86, v87, v88, v89, v90, v91, v92, v93, v94, v95, v96, v97, v98, v99, v100, v101, v102, v103, v104, v105, v106, v107, v108, v109, v110, v111, v112, v113, v114, v115, v116, v117, v118, v119, v120, v121, v122, v123, v124, v125, v126, v127, v128, v129, v130, v131, v132, v133, v134, v135, v136, v137, v138, v139, v140, v141, v142, v143, v144, v145, v146, v147, v148, v149, v150, v151, v152, v153, v154, v155, v156, v157, v158, v159, v160, v161, v162, v163, v164, v165, v166, v167, v168, v169, v170, v171, v172, v173, v174, v175, v176, v177, v178, v179, v180, v181, v182, v183, v184, v185, v186, v187, v188, v189, v190, v191, v192, v193, v194, v195, v196, v197, v198, v199, v200, v201, v202, v203, v204, v205, v206, v207, v208, v209, v210, v211, v212, v213, v214, v215, v216, v217, v218, v219, v220, v221, v222, v223, v224, v225, v226, v227, v228, v229, v230, v231, v232, v233, v234, v235, v236, v237, v238, v239, v240, v241, v242, v243, v244, v245, v246, v247, v248, v249, v250, v251, v252, v253, v254, v255, v256, v257, v258, v259, v260, v261, v262, v263, v264, v265, v266, v267, v268, v269, v270, v271, v272, v273, v274, v275, v276, v277, v278, v279, v280], []⟩ wz := by
  conv => arg 2; whnf
  have HNORM := Lib.hid hnorm
  clear hnorm
  go_wp2_with fail
  go_loopw [10, 15, 16] (fun s10 s15 s16 wr => ∃ y : Nat, y ≤ 3 ∧ s16 = .int .i64 (y : Nat) ∧ s15 = .bool (anyK M Kt (y * W)) ∧ RwS nb xb bx A m b w (O + y * V) (pre ++ (colS M ++ (List.replicate G 0 ++ rowsS bits W (fun y x => Kt (y * W + x)) y))) s10 wr ∧ nb ≤ wr.heap.size) (fun _ _ s16 _ => 3 - (intOf s16).toNat)
  case atStart => exact ⟨0, by omega, rfl, by rw [Nat.zero_mul]; rfl, HZ0.out⟩
  case round =>
    clear HZ0
    obtain ⟨y, hy, rfl, rfl, hS, hnb2⟩ := hrel
    have HS := Lib.hid hS
    clear hS
    by_cases hy3 : y < 3
    · have hyV : y * V ≤ 80 := Nat.mul_le_mul (show y ≤ 2 by omega) hVb
      obtain ⟨p, hp⟩ : ∃ p, p = y * W := ⟨_, rfl⟩
      have hpb : p ≤ 80 := by
        rw [hp]
        exact Nat.mul_le_mul (show y ≤ 2 by omega) hW1.2
      have hpI : (y : Int) * (W : Int) = (p : Int) := by rw [hp]; simp
      rw [← hp]
      have ty : decide ((y : Int) < 3) = true := by simp; omega
      have ty' : decide (y < 3) = true := by simp; omega
      have HP := Lib.hid hp
      have HN0 := Lib.hid (pkH_new wr)
      clear hp
      go_upto_region 31 with fail
      generalize wr.alloc (.cells #[.slice none 0 0, .bool true] 53) = wp at *
      obtain ⟨g, hg⟩ : ∃ g, g = wr.heap.size := ⟨_, rfl⟩
      rw [← hg] at HN0 ⊢
      obtain ⟨wo, hwo⟩ : ∃ wo, wo = wr := ⟨_, rfl⟩
      subst hwo
      clear hg
      go_wp2_with fail
      go_loopw [15, 18] (fun s15 s18 wx => ∃ (x : Nat) (ob : Option Nat), x ≤ W ∧ s18 = .int .i64 (x : Nat) ∧ s15 = .bool (anyK M Kt (p + x)) ∧ PkH wo g (bitsS bits (fun x => Kt (p + x)) x) ob wx) (fun _ s18 _ => W - (intOf s18).toNat)
      case atStart => exact ⟨0, none, by omega, rfl, rfl, HN0.out⟩
      case round =>
        clear HN0
        obtain ⟨x, ob, hx, rfl, rfl, hK⟩ := hrel
        have hbl := bitsS_len bits (fun x => Kt (p + x)) x
        have hbl2 : x * bits ≤ 40 * 8 := Nat.mul_le_mul (by omega) hb8
        obtain ⟨lb2, hlb2⟩ : ∃ l, l = bitsS bits (fun x => Kt (p + x)) x := ⟨_, rfl⟩
        rw [← hlb2] at hK hbl
        have HLB2 := Lib.hid hlb2
        have HK := Lib.hid hK
        have hl5 : lb2.length ≤ 500000 := by omega
        clear hK hbl hbl2 hlb2
        by_cases hxW : x < W
        · obtain ⟨t, ht⟩ : ∃ t, t = p + x := ⟨_, rfl⟩
          have htI : (p : Int) + (x : Int) = (t : Int) := by omega
          have ht120 : t ≤ 120 := by omega
          obtain ⟨j, hj⟩ : ∃ j, j = t % m := ⟨_, rfl⟩
          have hjm : j < m := by rw [hj]; exact Nat.mod_lt _ (by omega)
          have g1 : (t : Int) % (m : Int) = (j : Int) := by rw [hj]; simp
          have g2 : Int.tmod (t : Int) (m : Int) = (j : Int) := by rw [Int.tmod_eq_emod_of_nonneg (by omega), g1]
          have g3 : ((m : Int) == 0) = false := beq_eq_false_iff_ne.2 (by omega)
          have hkt := HKT.out t
          rw [← hj] at hkt
          obtain ⟨bk, of, hAe, hbk, hcl⟩ := (HS.out.st.below HK.out.2.1).arg (by omega)
          have c0 := hcl j hjm
          obtain ⟨v, hv⟩ : ∃ v, v = b j := ⟨_, rfl⟩
          have hv8 : v < 256 := by rw [hv]; exact HBB.out j
          rw [← hv] at c0 hkt
          have hal := and_low v bits hv8 hb8
          rw [← hkt] at hal
          obtain ⟨kk, hkk⟩ : ∃ kk, kk = Kt t := ⟨_, rfl⟩
          have hkk8 : kk < 256 := by
            rw [hkk, hkt]
            exact Nat.lt_of_lt_of_le (Nat.mod_lt _ (Nat.pow_pos (by omega))) (pow_S HBS.out).2
          obtain ⟨P, hP⟩ : ∃ P, P = 2 ^ bits := ⟨_, rfl⟩
          have hPb := pow_S HBS.out
          rw [← hP] at hPb hal
          obtain ⟨P1, hP1⟩ : ∃ P1, P1 = P - 1 := ⟨_, rfl⟩
          rw [← hP1, ← hkk] at hal
          have g4 : (P : Int) - 1 = (P1 : Int) := by omega
          have g5 : (2 : Int) ^ bits = (P : Int) := by rw [hP]; simp
          have g6 : IntKind.i64.wrap (2 ^ bits) = (P : Int) := by rw [g5]; exact IntWalk.i64_in _ (by omega)
          have hb64 : bits < 64 := by omega
          have HKK := Lib.hid hkk
          have HTE := Lib.hid ht
          have HANY : Hid (anyK M Kt (p + (x + 1)) = (anyK M Kt t || decide (M ≤ kk))) := Lib.hid (by rw [← Nat.add_assoc, ← ht, hkk]; rfl)
          have HBIT : Hid (bitsS bits (fun x => Kt (p + x)) (x + 1) = lb2 ++ numB true (kk : Nat) bits) := Lib.hid (by rw [HLB2.out, hkk, ht]; rfl)
          subst hAe
          obtain ⟨an, han⟩ : ∃ an, an = anyK M Kt t := ⟨_, rfl⟩
          rw [show anyK M Kt (p + x) = an by rw [han, ht]]
          rw [← han] at HANY
          clear hcl hv hkt hkk hP hP1 hj ht g5 han
          go_upto_region 35 with fail
          clear htI g1 g2 g3 g4 g6 c0 hal
          go_cut [15] from 167 to 172 (fun s wx => s = .bool (an || decide (M ≤ kk)) ∧ wx = wr)
          case first =>
            cases an with
            | true =>
              go_wp2_with fail
              go_meet
              exact ⟨rfl, rfl⟩
            | false =>
              by_cases hMk : M ≤ kk
              · have t1 : decide ((M : Int) ≤ (kk : Int)) = true := decide_eq_true (by omega)
                have hv : (false || decide (M ≤ kk)) = true := by simp [hMk]
                have HVV := Lib.hid hv
                clear hv
                go_wp2_with fail
                go_meet
                exact ⟨by rw [HVV.out], rfl⟩
              · have t1 : decide ((M : Int) ≤ (kk : Int)) = false := decide_eq_false (by omega)
                have hv : (false || decide (M ≤ kk)) = false := by simp [hMk]
                have HVV := Lib.hid hv
                clear hv
                go_wp2_with fail
                go_meet
                exact ⟨by rw [HVV.out], rfl⟩
          case rest =>
          obtain ⟨rfl, hwc⟩ := hcut
          obtain rfl : wr = wc := hwc.symm
          clear hwc
          rw [← HANY.out]
          obtain ⟨an2, han2⟩ : ∃ an2, an2 = anyK M Kt (p + (x + 1)) := ⟨_, rfl⟩
          rw [← han2]
          have HAN2 := Lib.hid han2
          clear han2 HANY
          go_wp2_with fail
          refine (pkH_put HK.out hl5 kk hkk8 bits (by omega)).mono ?_
          rintro e w9 ⟨rfl, ob2, hK9⟩
          rw [← HBIT.out] at hK9
          have HK9 := Lib.hid hK9
          clear hK9 HBIT
          go_wp2_with fail
          go_roundw
          case rel =>
            exact ⟨x + 1, ob2, hxW, by go_num, by rw [HAN2.out], HK9.out⟩
          case measure => simp [intOf]; omega
        · obtain rfl : W = x := by omega
          go_wp2_with fail
          refine (out_pkO g lb2 true ob hl5 _ HK.out.1).mono ?_
          rintro e w9 ⟨v, rfl, hown, hB9⟩
          obtain ⟨pk, hpk⟩ : ∃ pk, pk = (pack true lb2).1 := ⟨_, rfl⟩
          rw [← hpk] at hown
          obtain ⟨n8, hn8⟩ : ∃ n8, n8 = pk.length := ⟨_, rfl⟩
          rw [← hn8] at hown
          obtain ⟨pd, hpd⟩ : ∃ pd, pd = (4 - n8 % 4) % 4 := ⟨_, rfl⟩
          have hrow : rowS bits W (fun x => Kt (p + x)) = pk ++ List.replicate pd 255 := by
            rw [rowS, padS, ← HLB2.out, ← hpk, ← hn8, ← hpd]
          have hlen : n8 + pd = V := by
            have h1 := congrArg List.length hrow
            rw [rowS_len, List.length_append, List.length_replicate, ← HV.out, ← hn8] at h1
            exact h1.symm
          have hpd3 : pd ≤ 3 ∧ (n8 + pd) % 4 = 0 ∧ ∀ i, i ≤ pd → (n8 + i) % 4 = 0 → i = pd := by
            refine ⟨by omega, by omega, fun i h1 h2 => by omega⟩
          have hV1 : 1 ≤ V := by
            rw [HV.out]
            unfold bmWide
            have : 1 * 1 ≤ W * bits := Nat.mul_le_mul hW1.1 (by have := HBS.out; omega)
            omega
          have hB0 : Below wo.heap.size wo w9 := HK.out.2.1.trans (hB9.mono HK.out.2.1.size)
          have HO0 : Hid (w9.ownsRow wo.heap.size 5 1 v (n8 + 0) (cellsB (pk ++ List.replicate 0 255))) := Lib.hid (by
            rw [List.replicate_zero, List.append_nil]
            exact own_leS hown HK.out.2.1.size)
          have HB0 := Lib.hid hB0
          have HROW := Lib.hid hrow
          have HPD := Lib.hid hpd3
          clear hown hB9 hpk hn8 hpd hrow hpd3 hB0 HK HLB2
          go_wp2_with fail
          go_loopw [20] (fun s20 wx => ∃ i : Nat, i ≤ pd ∧ wx.ownsRow wo.heap.size 5 1 s20 (n8 + i) (cellsB (pk ++ List.replicate i 255)) ∧ Below wo.heap.size wo wx) (fun s20 _ => 100 - lenV s20)
          case atStart => exact ⟨0, by omega, HO0.out, HB0.out⟩
          case round =>
            clear HO0 HB0
            obtain ⟨i, hi, hO, hB⟩ := hrel
            obtain ⟨-, Ao, co, rfl, q1, q2, -⟩ := Sl.of_own hO
            obtain ⟨L, hL⟩ : ∃ L, L = n8 + i := ⟨_, rfl⟩
            rw [← hL] at hO q1 ⊢
            have hLV : L ≤ V := by omega
            obtain ⟨r4, hr4⟩ : ∃ r4, r4 = L % 4 := ⟨_, rfl⟩
            have g1 : (L : Int) % 4 = (r4 : Int) := by omega
            have g2 : Int.tmod (L : Int) 4 = (r4 : Int) := by rw [Int.tmod_eq_emod_of_nonneg (by omega), g1]
            have HL := Lib.hid hL
            have HB := Lib.hid hB
            have HO1 := Lib.hid hO
            have hsz := hB.size
            clear hB hO
            by_cases h40 : r4 = 0
            · have g3 : ((r4 : Int) != 0) = false := bne_eq_false_iff_eq.2 (by omega)
              obtain rfl : pd = i := (HPD.out.2.2 i hi (by omega)).symm
              have hLen : (pk ++ List.replicate pd 255).length = L := by
                rw [← HROW.out, rowS_len, ← HV.out]
                have := HL.out
                omega
              obtain ⟨hBy, _, _, _⟩ := byt_own HO1.out hLen
              obtain ⟨vj, wj, rj, hLj, hnbj⟩ := (HS.out.below HB.out).join (cap' := co) hwx2 (Nat.le_trans hnb2 hsz) HAW.out hBy hLen (by omega) (by omega) (by omega)
              have HRJ := Lib.hid rj
              have HFIN : Hid (RwS nb xb bx A m b w (O + (y + 1) * V) (pre ++ (colS M ++ (List.replicate G 0 ++ rowsS bits W (fun y x => Kt (y * W + x)) (y + 1)))) vj wj) := Lib.hid (by
                have e1 : O + (y + 1) * V = O + y * V + L := by rw [Nat.add_mul, Nat.one_mul]; omega
                rw [e1, rowsS, ← HP.out, HROW.out]
                simpa only [List.append_assoc] using hLj)
              have HANF : Hid (anyK M Kt (p + W) = anyK M Kt ((y + 1) * W)) := Lib.hid (by rw [HP.out, Nat.add_mul, Nat.one_mul])
              clear hL hr4 h40 hBy hLen rj hLj HO1 HB HS
              go_wp2_with (at_builtin; refine wpList_app rfl _ _ 22 rfl _ _ _ _ rfl rfl HRJ.out ?_)
              go_roundw
              case rel => exact ⟨y + 1, hy3, by go_num, by rw [HANF.out], HFIN.out, hnbj⟩
              case measure => simp [intOf]; omega
            · have g3 : ((r4 : Int) != 0) = true := bne_iff_ne.2 (by omega)
              have hal : Below wr.heap.size wr (wr.alloc (.cells #[.int .u8 ((255 : Nat) : Int)] 5)) := (Below.refl _ wr).alloc (Nat.le_refl _) _
              obtain ⟨v1, w1', r1', o1, gr1⟩ := app_one (wr.alloc (.cells #[.int .u8 ((255 : Nat) : Int)] 5)) wo.heap.size (.slice Ao L co) L (pk ++ List.replicate i 255) wr.heap.size 255 (HO1.out.alloc _) (hp_new0 _ _) (by omega) (by rw [World.size_alloc]; omega)
              obtain ⟨-, A1, c1, rfl, -, -, -⟩ := Sl.of_own o1
              have hne : i ≠ pd := fun e => h40 (by have := HPD.out.2.1; rw [hr4, HL.out, e]; omega)
              have hC1 : Chg (Value.slice Ao L co).ownBlock.toList wr w1' := (Chg.of_below hal).trans (Chg.grown gr1 (fun r e => by rw [e]; simp))
              have HB1 : Hid (Below wo.heap.size wo w1') := Lib.hid (HB.out.trans (hC1.below hsz (fun r hr => (HO1.out.lt r (by simpa using hr)).1)))
              have HO2 : Hid (w1'.ownsRow wo.heap.size 5 1 (.slice A1 (L + 1) c1) (n8 + (i + 1)) (cellsB (pk ++ List.replicate (i + 1) 255))) := Lib.hid (by
                rw [← Nat.add_assoc, ← HL.out, List.replicate_succ', ← List.append_assoc]
                exact o1)
              have HR1 : Hid ((Builtin.append_ #[22, 22] 22 #[.slice Ao L co, .slice (some ⟨wr.heap.size, 0, none⟩) 1 1]).run Tryd.prog (wr.alloc (.cells #[.int .u8 255] 5)) = .ok (.slice A1 (L + 1) c1) w1') := Lib.hid r1'
              have hip : i + 1 ≤ pd := by omega
              clear hL hr4 hal r1' o1 gr1 hC1 hne
              go_wp2_with (at_builtin; refine wpList_app rfl _ _ 22 rfl _ _ _ _ rfl rfl HR1.out ?_)
              go_roundw
              case rel => exact ⟨i + 1, hip, HO2.out, HB1.out⟩
              case measure => simp [lenV]; omega
    · obtain rfl : y = 3 := by omega
      have HSX := Lib.hid HS.out
      clear HS
      go_wp2_with fail
      exact HNORM.out _ _ _ _ _ _ _ _ _ _ _ _ _ _ _ _ _ _ _ _ _ _ _ _ _ _ _ _ _ _ _ _ _ _ _ _ _ _ _ _ _ _ _ _ _ _ _ _ _ _ _ _ _ _ _ _ _ HSX
end Go.Proofs.YtdooefnckdklmaaDoor
