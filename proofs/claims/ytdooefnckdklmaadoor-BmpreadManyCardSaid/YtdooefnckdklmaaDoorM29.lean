/- engraverref14.ReadInfo on any bytes: the walk. -/
import Derived.Test.YtdooefnckdklmaaDoorM28

namespace Go.Proofs.YtdooefnckdklmaaDoor
set_option maxRecDepth 100000
set_option linter.unusedVariables false
open Go.ChangeShapes Go.WideShapes Go.ChangeAt Go.RowKit

theorem wp_same2 {P : Program} {c : Code} {R : Exit → Act → World → Prop} {a : Act} {w : World} (h : c.wp P (Exit.then (fun a w => R .normal a w) R) a w) : c.wp P R a w :=
  Code.wp_mono (fun e _ _ q => by cases e <;> exact q) h
noncomputable def tail22 : Code := ((Tryd.f26.body.bind (fromRegion 22)).getD .skip)
set_option maxRecDepth 1000000 in
set_option maxHeartbeats 8000000 in
theorem info_def (A : Option Addr) (m cap : Nat) (d : Nat → Nat) (w : World) (E S g : Nat) (W H : Int) (N bits K O : Nat) (dn : Bool) (HD : Hid (∀ i, d i < 256)) (hmc : m ≤ cap) (HCP : Hid (cap ≤ maxLen)) (hm1 : m ≤ 262144) (hm2 : 54 ≤ m) (e5 : 14 + S ≤ m) (HEQ : Hid (E = bmErr d m)) (l28 : bits < 65536) (l30 : K < 4294967296) (l10 : O < 4294967296)
    (HS : Hid (S = bmS d)) (HS2 : Hid (S = 40 ∨ S = 108)) (HWE : Hid (W = bmW d)) (HHE : Hid (H = bmH d)) (HN : Hid (N = H.natAbs)) (HDN : Hid (dn = decide (H < 0))) (HBI : Hid (bits = bmBits d)) (HKE : Hid (K = bmK d)) (HOE : Hid (O = bmOff d)) (HFI : Hid (bits6 bits ∧ K ≤ 3 ∧ (K = 1 → bits = 8 ∧ 0 ≤ H) ∧ (K = 2 → bits = 4 ∧ 0 ≤ H) ∧ (K = 3 → bits = 16 ∨ bits = 32)))
    (HE : Hid (E = if K = 3 ∧ m < 54 + 4 * bmMany d then 2 else if K = 3 ∧ masksB (bmMask d) bits = false then 4 else if bits ≤ 8 ∧ 2 ^ bits < bmUsed d then 4 else if bits ≤ 8 ∧ m < bmE1 d + 4 * bmUsed d then 2 else if O < bmE2 d then 4 else if m < O then 2 else 0)) (w3 : World) (HI3 : Hid (InfS g A m d w (infoC W (N : Nat) bits K O dn (fun _ => 0) (.slice none 0 0)) w3))
    (v1 v3 v7 v8 v9 v10 v11 v12 v13 v14 v15 v16 v17 v18 v19 v20 v21 v22 v23 v24 v25 v26 v27 v28 v29 v30 v31 v32 v33 v34 v35 v36 v37 v38 v39 v40 v41 v42 v43 v44 v45 v46 v47 v48 v49 v50 v51 v52 v53 v54 v55 v56 v57 v58 v59 v60 v61 v62 v63 v64 v65 v66 v67 v68 v69 v70 v71 v72 v73 v74 v75 v76 v77 v78 v79 v80 v81 v82 v83 v84 v85 v86 v87 v88 v89 v90 v91 v92 v93 v94 v95 v96 v97 v98 v99 v100 v101 v102 v103 v104 v105 v106 v107 v108 v109 v110 v111 v112 v113 v114 v115 v116 v117 v118 v119 v120 v121 v122 v123 v124 v125 v126 v127 v128 v129 v130 v131 v132 v133 v134 v135 v136 v137 v138 v139 v140 v141 v142 v143 v144 v145 v146 v147 v148 v149 v150 v151 v152 v153 v154 v155 v156 v157 v158 v159 v160 v161 v162 v163 v164 v165 v166 v167 v168 v169 v170 v171 v172 v173 v174 v175 v176 v177 v178 v179 v180 v181 v182 v183 v184 v185 v186 v187 v188 v189 v190 v191 v192 v193 v194 v195 v196 v197 v198 v199 v200 v201 v202 v203 v204 v205 v206 v207 v208 v209 v210 v211 v212 v213 v214 v215 v216 v217 v218 v219 v220 v221 v222 v223 v224 v225 v226 v227 v228 v229 v230 v231 v232 v233 v234 v235 v236 v237 v238 v239 v240 v241 v242 v243 v244 v245 v246 v247 v248 v249 v250 v251 v252 v253 v254 v255 v256 v257 v258 v259 v260 v261 v262 v263 v264 v265 v266 v267 v268 v269 v270 v271 v272 v273 v274 v275 v276 v277 v278 v279 v280 v281 : Value) :
    Code.wp Tryd.prog tail22 (bodyPost Tryd.prog Tryd.f26 (infoPost d m w)) ⟨#[.slice A m cap, v1, .pointer (some ⟨w.heap.size, 0, none⟩), v3, .int .i64 (S : Nat), .pointer (some ⟨g, 0, none⟩), .int .i64 (bits : Nat), v7, v8, v9, v10, v11, v12, v13, v14, v15, v16, v17, v18, v19, v20, v21, v22, v23, v24, v25, v26, v27, v28, v29, v30, v31, v32, v33, v34, v35, v36, v37, v38, v39, v40, v41, v42, v43, v44, v45, v46, v47, v48, v49, v50, v51, v52, v53, v54, v55, v56, v57, v58, v59, v60, v61, v62, v63, v64, v65, v66, v67, v68, v69, v70, v71, v72, v73, v74, v75, v76, v77, v78, v79, v80, v81, v82, v83, v84, v85, v86, v87, v88, v89, v90, v91, v92, v93, v94, v95, v96, v97, v98, v99, v100, v101, v102, v103, v104, v105, v106, v107, v108, v109, v110, v111, v112, v113, v114, v115, v116, v117, v118, v119, v120, v121, v122, v123, v124, v125, v126, v127, v128, v129, v130, v131, v132, v133, v134, v135, v136, v137, v138, v139, v140, v141, v142, v143, v144, v145, v146, v147, v148, v149, v150, v151, v152, v153, v154, v155, v156, v157, v158, v159, v160, v161, v162, v163, v164, v165, v166, v167, v168, v169, v170, v171, v172, v173, v174, v175, v176, v177, v178, v179, v180, v181, v182, v183, v184, v185, v186, v187, v188, v189, v190, v191, v192, v193, v194, v195, v196, v197, v198, v199, v200, v201, v202, v203, v204, v205, v206, v207, v208, v209, v210, v211, v212, v213, v214, v215, v216, v217, v218, v219, v220, v221, v222, v223, v224, v225, v226, v227, v228, v229, v230, v231, v232, v233, v234, v235, v236, v237, v238, v239, v240, v241, v242, v243, v244, v245, v246, v247, v248, v249, v250, v251, v252, v253, v254, v255, v256, v257, v258, v259, v260, v261, v262, v263, v264, v265, v266, v267, v268, v269, v270, v271, v272, v273, v274, v275, v276, v277, v278, v279, v280, v281], []⟩ w3 := by
  conv => arg 2; whnf
  have hcap := HCP.out
  unfold maxLen at hcap
  have hSb : S < 4294967296 := by have := HS2.out; omega
  obtain ⟨e0, he0⟩ : ∃ e0, e0 = 14 + S := ⟨_, rfl⟩
  have y0 : (14 : Int) + (S : Int) = (e0 : Int) := by omega
  have HE0 := Lib.hid he0
  have he0b : e0 ≤ m := by omega
  clear he0
  go_upto_if 165 with fail
  go_cut [] (fun wx => Hid (InfS g A m d w (infoC W (N : Nat) bits K O dn (fun i => if bits = 16 then m16 i else 0) (.slice none 0 0)) wx))
  case first =>
    by_cases b16 : bits = 16
    · have q16 : ((bits : Int) == 16) = true := beq_iff_eq.2 (by omega)
      have c6 : w3.cell? ⟨g, 6, none⟩ = some (.int .u32 0) := HI3.out.cell rfl
      have c7 : w3.cell? ⟨g, 7, none⟩ = some (.int .u32 0) := HI3.out.cell rfl
      have c8 : w3.cell? ⟨g, 8, none⟩ = some (.int .u32 0) := HI3.out.cell rfl
      have c9 : w3.cell? ⟨g, 9, none⟩ = some (.int .u32 0) := HI3.out.cell rfl
      have kf := hp_froz HI3.out.hd
      have h1 := (((HI3.out.set 6 (.int .u32 31744)).set 7 (.int .u32 992)).set 8 (.int .u32 31)).set 9 (.int .u32 0)
      have hf : (fun i => if bits = 16 then m16 i else 0) = m16 := by funext i; rw [if_pos b16]
      have H1 : Hid (InfS g A m d w (infoC W (N : Nat) bits K O dn (fun i => if bits = 16 then m16 i else 0) (.slice none 0 0)) ((((w3.setCell ⟨g, 6, none⟩ (.int .u32 31744)).setCell ⟨g, 7, none⟩ (.int .u32 992)).setCell ⟨g, 8, none⟩ (.int .u32 31)).setCell ⟨g, 9, none⟩ (.int .u32 0))) := Lib.hid (by rw [hf]; exact h1)
      clear h1 hf b16
      go_wp2_with fail
      go_meet
      exact H1
    · have q16 : ((bits : Int) == 16) = false := beq_eq_false_iff_ne.2 (by omega)
      have hf : (fun i => if bits = 16 then m16 i else 0) = (fun _ => 0) := by funext i; rw [if_neg b16]
      have H1 : Hid (InfS g A m d w (infoC W (N : Nat) bits K O dn (fun i => if bits = 16 then m16 i else 0) (.slice none 0 0)) w3) := Lib.hid (by rw [hf]; exact HI3.out)
      clear hf b16
      go_wp2_with fail
      go_meet
      exact H1
  case rest =>
  obtain ⟨w4, hw4⟩ : ∃ w4, w4 = wc := ⟨_, rfl⟩
  rw [← hw4] at hcut ⊢
  have HI4 := Lib.hid hcut.out
  clear hcut hw4 HI3
  go_upto_if 169 with fail
  go_cut [] (fun wx => Hid (InfS g A m d w (infoC W (N : Nat) bits K O dn (mDef bits) (.slice none 0 0)) wx))
  case first =>
    by_cases b32 : bits = 32
    · have q32 : ((bits : Int) == 32) = true := beq_iff_eq.2 (by omega)
      have c6 : w4.cell? ⟨g, 6, none⟩ = some (.int .u32 ((if bits = 16 then m16 0 else 0 : Nat) : Int)) := HI4.out.cell rfl
      have c7 : w4.cell? ⟨g, 7, none⟩ = some (.int .u32 ((if bits = 16 then m16 1 else 0 : Nat) : Int)) := HI4.out.cell rfl
      have c8 : w4.cell? ⟨g, 8, none⟩ = some (.int .u32 ((if bits = 16 then m16 2 else 0 : Nat) : Int)) := HI4.out.cell rfl
      have c9 : w4.cell? ⟨g, 9, none⟩ = some (.int .u32 ((if bits = 16 then m16 3 else 0 : Nat) : Int)) := HI4.out.cell rfl
      have b16 : ¬bits = 16 := by omega
      rw [if_neg b16] at c6 c7 c8 c9
      have kf := hp_froz HI4.out.hd
      have h1 := (((HI4.out.set 6 (.int .u32 16711680)).set 7 (.int .u32 65280)).set 8 (.int .u32 255)).set 9 (.int .u32 0)
      have hf : mDef bits = m32 := by rw [b32]; exact mDef_32
      have H1 : Hid (InfS g A m d w (infoC W (N : Nat) bits K O dn (mDef bits) (.slice none 0 0)) ((((w4.setCell ⟨g, 6, none⟩ (.int .u32 16711680)).setCell ⟨g, 7, none⟩ (.int .u32 65280)).setCell ⟨g, 8, none⟩ (.int .u32 255)).setCell ⟨g, 9, none⟩ (.int .u32 0))) := Lib.hid (by rw [hf]; exact h1)
      clear h1 hf b32 b16
      go_wp2_with fail
      go_meet
      exact H1
    · have q32 : ((bits : Int) == 32) = false := beq_eq_false_iff_ne.2 (by omega)
      have hf : mDef bits = (fun i => if bits = 16 then m16 i else 0) := by funext i; unfold mDef; rw [if_neg b32]
      have H1 : Hid (InfS g A m d w (infoC W (N : Nat) bits K O dn (mDef bits) (.slice none 0 0)) w4) := Lib.hid (by rw [hf]; exact HI4.out)
      clear hf b32
      go_wp2_with fail
      go_meet
      exact H1
  case rest =>
  obtain ⟨w5, hw5⟩ : ∃ w5, w5 = wc := ⟨_, rfl⟩
  rw [← hw5] at hcut ⊢
  have HI5 := Lib.hid hcut.out
  clear hcut hw5 HI4
  refine (show ∀ a w', Code.wp Tryd.prog _ _ a w' → _ from by assumption) _ _ ?_
  refine wp_same2 ?_
  exact info_mask A m cap d w E S g W H N bits K O e0 dn HD hmc HCP (by omega) (by omega) HEQ l28 l30 l10 he0b HS HS2 HE0 HWE HHE HN HDN HBI HKE HOE HFI HE w5 HI5 _ _ _ _ _ _ _ _ _ _ _ _ _ _ _ _ _ _ _ _ _ _ _ _ _ _ _ _ _ _ _ _ _ _ _ _ _ _ _ _ _ _ _ _ _ _ _ _ _ _ _ _ _ _ _ _ _ _ _ _ _ _ _ _ _ _ _ _ _ _ _ _ _ _ _ _ _ _ _ _ _ _ _ _ _ _ _ _ _ _ _ _ _ _ _ _ _ _ _ _ _ _ _ _ _ _ _ _ _ _ _ _ _ _ _ _ _ _ _ _ _ _ _ _ _ _ _ _ _ _ _ _ _ _ _ _ _ _ _ _ _ _ _ _ _ _ _ _ _ _ _ _ _ _ _ _ _ _ _ _ _ _ _ _ _ _ _ _ _ _ _ _ _ _ _ _ _ _ _ _ _ _ _ _ _ _ _ _ _ _ _ _ _ _ _ _ _ _ _ _ _ _ _ _ _ _ _ _ _ _ _ _ _ _ _ _ _ _ _ _ _ _ _ _ _ _ _ _ _ _ _ _ _ _ _ _ _ _ _ _ _ _ _ _ _ _ _ _ _ _ _ _ _ _ _ _ _ _ _ _ _ _ _ _ _ _ _ _ _ _ _ _ _ _ _ _ _
noncomputable def tail17 : Code := ((Tryd.f26.body.bind (fromRegion 17)).getD .skip)
set_option maxRecDepth 1000000 in
set_option maxHeartbeats 8000000 in
theorem info_mid (A : Option Addr) (m cap : Nat) (d : Nat → Nat) (w : World) (E S g : Nat) (W H : Int) (bits K O : Nat) (HD : Hid (∀ i, d i < 256)) (hmc : m ≤ cap) (HCP : Hid (cap ≤ maxLen)) (hm1 : m ≤ 262144) (hm2 : 54 ≤ m) (e5 : 14 + S ≤ m) (HEQ : Hid (E = bmErr d m)) (l28 : bits < 65536) (l30 : K < 4294967296) (l10 : O < 4294967296) (hWb : -2147483648 ≤ W ∧ W < 2147483648) (hHb : -2147483648 ≤ H ∧ H < 2147483648)
    (HS : Hid (S = bmS d)) (HS2 : Hid (S = 40 ∨ S = 108)) (HWE : Hid (W = bmW d)) (HHE : Hid (H = bmH d)) (HBI : Hid (bits = bmBits d)) (HKE : Hid (K = bmK d)) (HOE : Hid (O = bmOff d)) (HF : Hid (0 < W ∧ H ≠ 0 ∧ bmFine bits K H = true))
    (HE : Hid (E = if sizeE W (H.natAbs : Nat) ≠ 0 then 6 else if K = 3 ∧ m < 54 + 4 * bmMany d then 2 else if K = 3 ∧ masksB (bmMask d) bits = false then 4 else if bits ≤ 8 ∧ 2 ^ bits < bmUsed d then 4 else if bits ≤ 8 ∧ m < bmE1 d + 4 * bmUsed d then 2 else if O < bmE2 d then 4 else if m < O then 2 else 0)) (w2 : World) (HIS : Hid (InfS g A m d w (infoC W H bits K O false (fun _ => 0) (.slice none 0 0)) w2))
    (v1 v3 v7 v8 v9 v10 v11 v12 v13 v14 v15 v16 v17 v18 v19 v20 v21 v22 v23 v24 v25 v26 v27 v28 v29 v30 v31 v32 v33 v34 v35 v36 v37 v38 v39 v40 v41 v42 v43 v44 v45 v46 v47 v48 v49 v50 v51 v52 v53 v54 v55 v56 v57 v58 v59 v60 v61 v62 v63 v64 v65 v66 v67 v68 v69 v70 v71 v72 v73 v74 v75 v76 v77 v78 v79 v80 v81 v82 v83 v84 v85 v86 v87 v88 v89 v90 v91 v92 v93 v94 v95 v96 v97 v98 v99 v100 v101 v102 v103 v104 v105 v106 v107 v108 v109 v110 v111 v112 v113 v114 v115 v116 v117 v118 v119 v120 v121 v122 v123 v124 v125 v126 v127 v128 v129 v130 v131 v132 v133 v134 v135 v136 v137 v138 v139 v140 v141 v142 v143 v144 v145 v146 v147 v148 v149 v150 v151 v152 v153 v154 v155 v156 v157 v158 v159 v160 v161 v162 v163 v164 v165 v166 v167 v168 v169 v170 v171 v172 v173 v174 v175 v176 v177 v178 v179 v180 v181 v182 v183 v184 v185 v186 v187 v188 v189 v190 v191 v192 v193 v194 v195 v196 v197 v198 v199 v200 v201 v202 v203 v204 v205 v206 v207 v208 v209 v210 v211 v212 v213 v214 v215 v216 v217 v218 v219 v220 v221 v222 v223 v224 v225 v226 v227 v228 v229 v230 v231 v232 v233 v234 v235 v236 v237 v238 v239 v240 v241 v242 v243 v244 v245 v246 v247 v248 v249 v250 v251 v252 v253 v254 v255 v256 v257 v258 v259 v260 v261 v262 v263 v264 v265 v266 v267 v268 v269 v270 v271 v272 v273 v274 v275 v276 v277 v278 v279 v280 v281 : Value) :
    Code.wp Tryd.prog tail17 (bodyPost Tryd.prog Tryd.f26 (infoPost d m w)) ⟨#[.slice A m cap, v1, .pointer (some ⟨w.heap.size, 0, none⟩), v3, .int .i64 (S : Nat), .pointer (some ⟨g, 0, none⟩), .int .i64 (bits : Nat), v7, v8, v9, v10, v11, v12, v13, v14, v15, v16, v17, v18, v19, v20, v21, v22, v23, v24, v25, v26, v27, v28, v29, v30, v31, v32, v33, v34, v35, v36, v37, v38, v39, v40, v41, v42, v43, v44, v45, v46, v47, v48, v49, v50, v51, v52, v53, v54, v55, v56, v57, v58, v59, v60, v61, v62, v63, v64, v65, v66, v67, v68, v69, v70, v71, v72, v73, v74, v75, v76, v77, v78, v79, v80, v81, v82, v83, v84, v85, v86, v87, v88, v89, v90, v91, v92, v93, v94, v95, v96, v97, v98, v99, v100, v101, v102, v103, v104, v105, v106, v107, v108, v109, v110, v111, v112, v113, v114, v115, v116, v117, v118, v119, v120, v121, v122, v123, v124, v125, v126, v127, v128, v129, v130, v131, v132, v133, v134, v135, v136, v137, v138, v139, v140, v141, v142, v143, v144, v145, v146, v147, v148, v149, v150, v151, v152, v153, v154, v155, v156, v157, v158, v159, v160, v161, v162, v163, v164, v165, v166, v167, v168, v169, v170, v171, v172, v173, v174, v175, v176, v177, v178, v179, v180, v181, v182, v183, v184, v185, v186, v187, v188, v189, v190, v191, v192, v193, v194, v195, v196, v197, v198, v199, v200, v201, v202, v203, v204, v205, v206, v207, v208, v209, v210, v211, v212, v213, v214, v215, v216, v217, v218, v219, v220, v221, v222, v223, v224, v225, v226, v227, v228, v229, v230, v231, v232, v233, v234, v235, v236, v237, v238, v239, v240, v241, v242, v243, v244, v245, v246, v247, v248, v249, v250, v251, v252, v253, v254, v255, v256, v257, v258, v259, v260, v261, v262, v263, v264, v265, v266, v267, v268, v269, v270, v271, v272, v273, v274, v275, v276, v277, v278, v279, v280, v281], []⟩ w2 := by
  conv => arg 2; whnf
  have hcap := HCP.out
  unfold maxLen at hcap
  have hSb : S < 4294967296 := by have := HS2.out; omega
  have hW1 : 1 ≤ W := by have := HF.out.1; omega
  have hH1 : H ≠ 0 := HF.out.2.1
  have HFI := Lib.hid (fine_bits HF.out.2.2)
  have k1 : w2.cell? ⟨g, 1, none⟩ = some (.int .i64 H) := HIS.out.cell rfl
  go_upto_if 147 with fail
  clear k1
  obtain ⟨N, hN⟩ : ∃ N, N = H.natAbs := ⟨_, rfl⟩
  obtain ⟨dn, hdn⟩ : ∃ dn, dn = decide (H < 0) := ⟨_, rfl⟩
  have HN := Lib.hid hN
  have HDN := Lib.hid hdn
  clear hN hdn
  go_cut [] (fun wx => Hid (InfS g A m d w (infoC W (N : Nat) bits K O dn (fun _ => 0) (.slice none 0 0)) wx))
  case first =>
    by_cases hh : H < 0
    · have t1 : decide (H < 0) = true := decide_eq_true hh
      have k1 : w2.cell? ⟨g, 1, none⟩ = some (.int .i64 H) := HIS.out.cell rfl
      have k5 : w2.cell? ⟨g, 5, none⟩ = some (.bool false) := HIS.out.cell rfl
      have kf := hp_froz HIS.out.hd
      have z1 : IntKind.i64.wrap (-H) = -H := IntWalk.i64_in _ (by omega)
      have h1 := (HIS.out.set 1 (.int .i64 (-H))).set 5 (.bool true)
      have hn : (-H : Int) = (N : Nat) := by rw [HN.out]; omega
      have hd1 : dn = true := by rw [HDN.out]; exact decide_eq_true hh
      have H1 : Hid (InfS g A m d w (infoC W (N : Nat) bits K O dn (fun _ => 0) (.slice none 0 0)) ((w2.setCell ⟨g, 1, none⟩ (.int .i64 (-H))).setCell ⟨g, 5, none⟩ (.bool true))) := Lib.hid (by rw [hd1, ← hn]; exact h1)
      clear h1 hn hd1
      go_wp2_with fail
      go_meet
      exact H1
    · have t1 : decide (H < 0) = false := decide_eq_false hh
      have hn : (H : Int) = (N : Nat) := by rw [HN.out]; omega
      have hd1 : dn = false := by rw [HDN.out]; exact decide_eq_false hh
      have H1 : Hid (InfS g A m d w (infoC W (N : Nat) bits K O dn (fun _ => 0) (.slice none 0 0)) w2) := Lib.hid (by rw [hd1, ← hn]; exact HIS.out)
      clear hn hd1
      go_wp2_with fail
      go_meet
      exact H1
  case rest =>
  obtain ⟨w3, hw3⟩ : ∃ w3, w3 = wc := ⟨_, rfl⟩
  rw [← hw3] at hcut ⊢
  have HI3 := Lib.hid hcut.out
  clear hcut hw3 HIS
  have k0 : w3.cell? ⟨g, 0, none⟩ = some (.int .i64 W) := HI3.out.cell rfl
  have k1 : w3.cell? ⟨g, 1, none⟩ = some (.int .i64 (N : Nat)) := HI3.out.cell rfl
  have hN1 : 1 ≤ N ∧ N ≤ 2147483648 := by rw [HN.out]; omega
  go_wp2_with fail
  refine (size_ref W (N : Nat) (by unfold In64; omega) (by unfold In64; omega) _).mono ?_
  rintro e wz ⟨rfl, hw⟩
  rw [← hw]
  clear hw wz k0 k1
  have hE := HE.out
  rw [← HN.out] at hE
  clear HE
  go_upto_if 159 with fail
  go_cut [] (fun wx => wx = w3 ∧ Hid (sizeE W (N : Nat) = 0))
  case first =>
    by_cases e6 : sizeE W (N : Nat) ≠ 0
    · rw [size_six (by omega) (by omega) e6]
      rw [if_pos e6] at hE
      have HE := Lib.hid hE
      clear hE e6
      obtain ⟨z0, z1, z2, z3, z4, z5, z6, z7, z8, z9, z10, zf⟩ := zs_of HI3.out.res
      go_wp2_with fail
      refine bodyPost_ret (v := .tuple #[.agg #[.int .i64 0, .int .i64 0, .int .i64 0, .int .i64 0, .int .i64 0, .bool false, .int .u32 0, .int .u32 0, .int .u32 0, .int .u32 0, .slice none 0 0], .int .i64 6]) (by rw [results_cell_tmp rfl]; go_simp) rfl ?_
      exact inf_bad HEQ.out (k := 6) HE.out (by decide) (below11 HI3.out.bel (Nat.le_refl _) _ _ _ _ _ _ _ _ _ _ _)
    · have hz := Classical.not_not.1 e6
      have HZ := Lib.hid hz
      have t6 : (sizeE W (N : Nat) != 0) = false := bne_eq_false_iff_eq.2 hz
      clear hE e6 hz
      go_wp2_with fail
      go_meet
      exact ⟨rfl, HZ⟩
  case rest =>
  obtain ⟨hwc, HZ⟩ := hcut
  obtain rfl : w3 = wc := hwc.symm
  rw [if_neg (Classical.not_not.2 HZ.out)] at hE
  refine (show ∀ a w', Code.wp Tryd.prog _ _ a w' → _ from by assumption) _ _ ?_
  exact info_def A m cap d w E S g W H N bits K O dn HD hmc HCP hm1 hm2 e5 HEQ l28 l30 l10 HS HS2 HWE HHE HN HDN HBI HKE HOE HFI (Lib.hid hE) w3 HI3 _ _ _ _ _ _ _ _ _ _ _ _ _ _ _ _ _ _ _ _ _ _ _ _ _ _ _ _ _ _ _ _ _ _ _ _ _ _ _ _ _ _ _ _ _ _ _ _ _ _ _ _ _ _ _ _ _ _ _ _ _ _ _ _ _ _ _ _ _ _ _ _ _ _ _ _ _ _ _ _ _ _ _ _ _ _ _ _ _ _ _ _ _ _ _ _ _ _ _ _ _ _ _ _ _ _ _ _ _ _ _ _ _ _ _ _ _ _ _ _ _ _ _ _ _ _ _ _ _ _ _ _ _ _ _ _ _ _ _ _ _ _ _ _ _ _ _ _ _ _ _ _ _ _ _ _ _ _ _ _ _ _ _ _ _ _ _ _ _ _ _ _ _ _ _ _ _ _ _ _ _ _ _ _ _ _ _ _ _ _ _ _ _ _ _ _ _ _ _ _ _ _ _ _ _ _ _ _ _ _ _ _ _ _ _ _ _ _ _ _ _ _ _ _ _ _ _ _ _ _ _ _ _ _ _ _ _ _ _ _ _ _ _ _ _ _ _ _ _ _ _ _ _ _ _ _ _ _ _ _ _ _ _ _ _ _ _ _ _ _ _ _ _ _ _ _ _
set_option maxRecDepth 1000000 in
set_option maxHeartbeats 8000000 in
theorem info_ref (A : Option Addr) (m cap : Nat) (d : Nat → Nat) (hd : ∀ i, d i < 256) (hmc : m ≤ cap) (hcap : cap ≤ maxLen) (w : World) (hB : Byt w A m d) :
    Calls Tryd.prog 26 #[.slice A m cap] w (infoPost d m w) := by
  have HD := Lib.hid hd
  have HMC := Lib.hid hmc
  have HCP := Lib.hid hcap
  have HRB := Lib.hid (hp_new0 w (.cells #[.int .i64 0, .int .i64 0, .int .i64 0, .int .i64 0, .int .i64 0, .bool false, .int .u32 0, .int .u32 0, .int .u32 0, .int .u32 0, .slice none 0 0] 70))
  have HBL := Lib.hid ((Below.refl _ w).alloc (Nat.le_refl _) (.cells #[.int .i64 0, .int .i64 0, .int .i64 0, .int .i64 0, .int .i64 0, .bool false, .int .u32 0, .int .u32 0, .int .u32 0, .int .u32 0, .slice none 0 0] 70))
  have HBY := Lib.hid (hB.below HBL.out)
  have HAW : Hid (∀ a, A = some a → 0 < m → a.block < w.heap.size) := Lib.hid (fun a ha h0 => by
    obtain ⟨bk, of, h1, h2, _⟩ := hB h0
    rw [h1] at ha
    cases ha
    exact h2)
  obtain ⟨E, hE⟩ : ∃ E, E = bmErr d m := ⟨_, rfl⟩
  have HEQ := Lib.hid hE
  unfold bmErr at hE
  unfold maxLen at hcap
  clear hd hB
  go_enter Tryd.func26, Tryd.ntmps26
  go_upto_region 1 with fail
  generalize w.alloc (.cells #[.int .i64 0, .int .i64 0, .int .i64 0, .int .i64 0, .int .i64 0, .bool false, .int .u32 0, .int .u32 0, .int .u32 0, .int .u32 0, .slice none 0 0] 70) = w1 at *
  by_cases e1 : 262144 < m
  · have t1 : decide (262144 < m) = true := by simp; omega
    have t1' : decide ((262144 : Int) < (m : Int)) = true := by simp; omega
    rw [if_pos e1] at hE
    have HE := Lib.hid hE
    clear hE
    obtain ⟨z0, z1, z2, z3, z4, z5, z6, z7, z8, z9, z10, zf⟩ := zs_of HRB.out
    go_wp2_with fail
    refine bodyPost_ret (v := .tuple #[.agg #[.int .i64 0, .int .i64 0, .int .i64 0, .int .i64 0, .int .i64 0, .bool false, .int .u32 0, .int .u32 0, .int .u32 0, .int .u32 0, .slice none 0 0], .int .i64 3]) (by rw [results_cell_tmp rfl]; go_simp) rfl ?_
    exact inf_bad HEQ.out (k := 3) HE.out (by decide) (below11 HBL.out (Nat.le_refl _) _ _ _ _ _ _ _ _ _ _ _)
  have t1 : decide (262144 < m) = false := by simp; omega
  have t1' : decide ((262144 : Int) < (m : Int)) = false := by simp; omega
  rw [if_neg e1] at hE
  by_cases e2 : m < 54
  · have t2 : decide (m < 54) = true := by simp; omega
    have t2' : decide ((m : Int) < 54) = true := by simp; omega
    rw [if_pos e2] at hE
    have HE := Lib.hid hE
    clear hE
    obtain ⟨z0, z1, z2, z3, z4, z5, z6, z7, z8, z9, z10, zf⟩ := zs_of HRB.out
    go_wp2_with fail
    refine bodyPost_ret (v := .tuple #[.agg #[.int .i64 0, .int .i64 0, .int .i64 0, .int .i64 0, .int .i64 0, .bool false, .int .u32 0, .int .u32 0, .int .u32 0, .int .u32 0, .slice none 0 0], .int .i64 2]) (by rw [results_cell_tmp rfl]; go_simp) rfl ?_
    exact inf_bad HEQ.out (k := 2) HE.out (by decide) (below11 HBL.out (Nat.le_refl _) _ _ _ _ _ _ _ _ _ _ _)
  have t2 : decide (m < 54) = false := by simp; omega
  have t2' : decide ((m : Int) < 54) = false := by simp; omega
  rw [if_neg e2] at hE
  have hB2 : Byt w1 A 2 d := fun _ => by
    obtain ⟨bk, of, h1, h2, h3⟩ := HBY.out (by omega)
    exact ⟨bk, of, h1, h2, fun j hj => h3 j (by omega)⟩
  have hs := run_str (cap := cap) hB2
  have qs := isBM d HD.out
  obtain ⟨T2, hT2⟩ : ∃ T2, T2 = strB 2 d := ⟨_, rfl⟩
  rw [← hT2] at hs qs
  have RH := run_hi A m cap 2 (by omega)
  rw [show ((2 : Nat) : Int) = 2 from rfl] at RH
  clear hB2 hT2
  by_cases e3 : ¬(d 0 = 66 ∧ d 1 = 77)
  · rw [if_pos e3] at hE
    have HE := Lib.hid hE
    rw [decide_eq_false e3] at qs
    clear hE e3
    obtain ⟨z0, z1, z2, z3, z4, z5, z6, z7, z8, z9, z10, zf⟩ := zs_of HRB.out
    go_wp2_with fail
    refine bodyPost_ret (v := .tuple #[.agg #[.int .i64 0, .int .i64 0, .int .i64 0, .int .i64 0, .int .i64 0, .bool false, .int .u32 0, .int .u32 0, .int .u32 0, .int .u32 0, .slice none 0 0], .int .i64 4]) (by rw [results_cell_tmp rfl]; go_simp) rfl ?_
    exact inf_bad HEQ.out (k := 4) HE.out (by decide) (below11 HBL.out (Nat.le_refl _) _ _ _ _ _ _ _ _ _ _ _)
  rw [if_neg e3] at hE
  rw [decide_eq_true (Classical.not_not.1 e3)] at qs
  clear e3
  go_wp2_with fail
  clear hs qs RH
  refine (low_ref A m cap d HD.out 14 4 (by omega) (by omega) hmc HCP.out _ HBY.out).mono ?_
  rintro e wz ⟨rfl, hw⟩
  rw [hw]
  clear hw wz
  obtain ⟨S, hS⟩ : ∃ S, S = bmS d := ⟨_, rfl⟩
  have hSb : S < 4294967296 := by rw [hS]; exact lowD_4 HD.out 14 4 (by omega)
  rw [show lowD d 14 4 = S from hS.symm]
  rw [← hS] at hE
  have HS := Lib.hid hS
  clear hS
  by_cases e4 : ¬(S = 40 ∨ S = 108)
  · have t4 : ((S : Int) != 40) = true := bne_iff_ne.2 (by omega)
    have t5 : ((S : Int) != 108) = true := bne_iff_ne.2 (by omega)
    rw [if_pos e4] at hE
    have HE := Lib.hid hE
    clear hE e4
    obtain ⟨z0, z1, z2, z3, z4, z5, z6, z7, z8, z9, z10, zf⟩ := zs_of HRB.out
    go_wp2_with fail
    refine bodyPost_ret (v := .tuple #[.agg #[.int .i64 0, .int .i64 0, .int .i64 0, .int .i64 0, .int .i64 0, .bool false, .int .u32 0, .int .u32 0, .int .u32 0, .int .u32 0, .slice none 0 0], .int .i64 4]) (by rw [results_cell_tmp rfl]; go_simp) rfl ?_
    exact inf_bad HEQ.out (k := 4) HE.out (by decide) (below11 HBL.out (Nat.le_refl _) _ _ _ _ _ _ _ _ _ _ _)
  rw [if_neg e4] at hE
  have HE := Lib.hid hE
  clear hE
  go_upto_region 8 with fail
  go_cut [38] from 33 to 38 (fun s wx => s = .bool false ∧ wx = w1)
  case first =>
    by_cases e5 : S = 40
    · have t4 : ((S : Int) != 40) = false := bne_eq_false_iff_eq.2 (by omega)
      go_wp2_with fail
      go_meet
      exact ⟨rfl, rfl⟩
    · have t4 : ((S : Int) != 40) = true := bne_iff_ne.2 (by omega)
      have t5 : ((S : Int) != 108) = false := bne_eq_false_iff_eq.2 (by omega)
      go_wp2_with fail
      go_meet
      exact ⟨rfl, rfl⟩
  case rest =>
  obtain ⟨rfl, hwc⟩ := hcut
  obtain rfl : w1 = wc := hwc.symm
  have hE := HE.out
  clear HE
  by_cases e5 : m < 14 + S
  · have t5 : decide ((m : Int) < 14 + (S : Int)) = true := by simp; omega
    rw [if_pos e5] at hE
    have HE := Lib.hid hE
    clear hE
    obtain ⟨z0, z1, z2, z3, z4, z5, z6, z7, z8, z9, z10, zf⟩ := zs_of HRB.out
    go_wp2_with fail
    refine bodyPost_ret (v := .tuple #[.agg #[.int .i64 0, .int .i64 0, .int .i64 0, .int .i64 0, .int .i64 0, .bool false, .int .u32 0, .int .u32 0, .int .u32 0, .int .u32 0, .slice none 0 0], .int .i64 2]) (by rw [results_cell_tmp rfl]; go_simp) rfl ?_
    exact inf_bad HEQ.out (k := 2) HE.out (by decide) (below11 HBL.out (Nat.le_refl _) _ _ _ _ _ _ _ _ _ _ _)
  have t5 : decide ((m : Int) < 14 + (S : Int)) = false := by simp; omega
  rw [if_neg e5] at hE
  have l18 := lowD_4 HD.out 18 4 (by omega)
  have l22 := lowD_4 HD.out 22 4 (by omega)
  have l28 := lowD_lt HD.out 28 2
  have l30 := lowD_4 HD.out 30 4 (by omega)
  have l10 := lowD_4 HD.out 10 4 (by omega)
  rw [show (256 : Nat) ^ 2 = 65536 from rfl] at l28
  obtain ⟨W, hW⟩ : ∃ W, W = bmW d := ⟨_, rfl⟩
  obtain ⟨H, hH⟩ : ∃ H, H = bmH d := ⟨_, rfl⟩
  obtain ⟨bits, hbits⟩ : ∃ x, x = bmBits d := ⟨_, rfl⟩
  obtain ⟨K, hK⟩ : ∃ x, x = bmK d := ⟨_, rfl⟩
  obtain ⟨O, hO⟩ : ∃ x, x = bmOff d := ⟨_, rfl⟩
  have hWb := sgn_bd l18
  have hHb := sgn_bd l22
  rw [show sgnV (lowD d 18 4) = W from hW.symm] at hWb
  rw [show sgnV (lowD d 22 4) = H from hH.symm] at hHb
  rw [show lowD d 28 2 = bits from hbits.symm] at l28
  rw [show lowD d 30 4 = K from hK.symm] at l30
  rw [show lowD d 10 4 = O from hO.symm] at l10
  rw [← hW, ← hH, ← hbits, ← hK, ← hO] at hE
  have HE := Lib.hid hE
  have HWE := Lib.hid hW
  have HHE := Lib.hid hH
  have HBI := Lib.hid hbits
  have HKE := Lib.hid hK
  have HOE := Lib.hid hO
  clear hE l18 l22 hW hH hbits hK hO
  go_wp2_with fail
  refine (signed_ref A m cap d HD.out 18 (by omega) hmc HCP.out _ HBY.out).mono ?_
  rintro e wz ⟨rfl, hw⟩
  rw [hw]
  clear hw wz
  rw [show sgnV (lowD d 18 4) = W from HWE.out.symm]
  go_wp2_with fail
  refine (signed_ref A m cap d HD.out 22 (by omega) hmc HCP.out _ HBY.out).mono ?_
  rintro e wz ⟨rfl, hw⟩
  rw [hw]
  clear hw wz
  rw [show sgnV (lowD d 22 4) = H from HHE.out.symm]
  go_wp2_with fail
  refine (low_ref A m cap d HD.out 28 2 (by omega) (by omega) hmc HCP.out _ HBY.out).mono ?_
  rintro e wz ⟨rfl, hw⟩
  rw [hw]
  clear hw wz
  rw [show lowD d 28 2 = bits from HBI.out.symm]
  go_wp2_with fail
  refine (low_ref A m cap d HD.out 30 4 (by omega) (by omega) hmc HCP.out _ HBY.out).mono ?_
  rintro e wz ⟨rfl, hw⟩
  rw [hw]
  clear hw wz
  rw [show lowD d 30 4 = K from HKE.out.symm]
  go_wp2_with fail
  refine (low_ref A m cap d HD.out 10 4 (by omega) (by omega) hmc HCP.out _ HBY.out).mono ?_
  rintro e wz ⟨rfl, hw⟩
  rw [hw]
  clear hw wz
  rw [show lowD d 10 4 = O from HOE.out.symm]
  have hIS := inf_new HRB.out HBY.out HBL.out HAW.out (infoC W H bits K O false (fun _ => 0) (.slice none 0 0))
  obtain ⟨g, hg⟩ : ∃ g, g = w1.heap.size := ⟨_, rfl⟩
  rw [← hg] at hIS
  have HIS : Hid (InfS g A m d w (infoC W H bits K O false (fun _ => 0) (.slice none 0 0)) (w1.alloc (.cells #[.int .i64 W, .int .i64 H, .int .i64 bits, .int .i64 K, .int .i64 O, .bool false, .int .u32 0, .int .u32 0, .int .u32 0, .int .u32 0, .slice none 0 0] 70))) := Lib.hid hIS
  clear hIS
  go_upto_region 13 with fail
  rw [← hg]
  generalize w1.alloc (.cells #[.int .i64 W, .int .i64 H, .int .i64 bits, .int .i64 K, .int .i64 O, .bool false, .int .u32 0, .int .u32 0, .int .u32 0, .int .u32 0, .slice none 0 0] 70) = w2 at *
  clear hg HRB HBL HBY HAW
  have k2 : w2.cell? ⟨g, 2, none⟩ = some (.int .i64 (bits : Nat)) := HIS.out.cell rfl
  go_upto_region 14 with fail
  clear k2
  obtain ⟨fb, hfb⟩ : ∃ fb, fb = fineB bits := ⟨_, rfl⟩
  have HFB := Lib.hid hfb
  clear hfb
  go_cut [7] from 59 to 80 (fun s wx => s = .bool fb ∧ wx = w2)
  case first =>
    by_cases b1 : bits = 1
    · have q1 : ((bits : Int) == 1) = true := beq_iff_eq.2 (by omega)
      have HV : Hid (true = fb) := Lib.hid (by rw [HFB.out, b1]; rfl)
      clear b1
      go_wp2_with fail
      go_meet
      exact ⟨congrArg Value.bool HV.out, rfl⟩
    have q1 : ((bits : Int) == 1) = false := beq_eq_false_iff_ne.2 (by omega)
    by_cases b4 : bits = 4
    · have q4 : ((bits : Int) == 4) = true := beq_iff_eq.2 (by omega)
      have HV : Hid (true = fb) := Lib.hid (by rw [HFB.out, b4]; rfl)
      clear b4
      go_wp2_with fail
      go_meet
      exact ⟨congrArg Value.bool HV.out, rfl⟩
    have q4 : ((bits : Int) == 4) = false := beq_eq_false_iff_ne.2 (by omega)
    by_cases b8 : bits = 8
    · have q8 : ((bits : Int) == 8) = true := beq_iff_eq.2 (by omega)
      have HV : Hid (true = fb) := Lib.hid (by rw [HFB.out, b8]; rfl)
      clear b8
      go_wp2_with fail
      go_meet
      exact ⟨congrArg Value.bool HV.out, rfl⟩
    have q8 : ((bits : Int) == 8) = false := beq_eq_false_iff_ne.2 (by omega)
    by_cases b16 : bits = 16
    · have q16 : ((bits : Int) == 16) = true := beq_iff_eq.2 (by omega)
      have HV : Hid (true = fb) := Lib.hid (by rw [HFB.out, b16]; rfl)
      clear b16
      go_wp2_with fail
      go_meet
      exact ⟨congrArg Value.bool HV.out, rfl⟩
    have q16 : ((bits : Int) == 16) = false := beq_eq_false_iff_ne.2 (by omega)
    by_cases b24 : bits = 24
    · have q24 : ((bits : Int) == 24) = true := beq_iff_eq.2 (by omega)
      have HV : Hid (true = fb) := Lib.hid (by rw [HFB.out, b24]; rfl)
      clear b24
      go_wp2_with fail
      go_meet
      exact ⟨congrArg Value.bool HV.out, rfl⟩
    have q24 : ((bits : Int) == 24) = false := beq_eq_false_iff_ne.2 (by omega)
    by_cases b32 : bits = 32
    · have q32 : ((bits : Int) == 32) = true := beq_iff_eq.2 (by omega)
      have HV : Hid (true = fb) := Lib.hid (by rw [HFB.out, b32]; rfl)
      clear b32
      go_wp2_with fail
      go_meet
      exact ⟨congrArg Value.bool HV.out, rfl⟩
    have q32 : ((bits : Int) == 32) = false := beq_eq_false_iff_ne.2 (by omega)
    have HV : Hid (false = fb) := Lib.hid (by rw [HFB.out]; exact (decide_eq_false (by omega)).symm)
    clear b1 b4 b8 b16 b24 b32
    go_wp2_with fail
    go_meet
    exact ⟨congrArg Value.bool HV.out, rfl⟩
  case rest =>
  obtain ⟨rfl, hwc⟩ := hcut
  obtain rfl : w2 = wc := hwc.symm
  clear hwc
  have p26 := lowD_lt HD.out 26 2
  obtain ⟨p, hp⟩ : ∃ p, p = lowD d 26 2 := ⟨_, rfl⟩
  have hE := HE.out
  rw [← hp] at hE p26
  rw [show (256 : Nat) ^ 2 = 65536 from rfl] at p26
  clear HE
  have HE := Lib.hid hE
  have HPE := Lib.hid hp
  clear hE hp
  go_upto_region 15 with fail
  obtain ⟨bad, hbad⟩ : ∃ bad, bad = badB p W H bits K := ⟨_, rfl⟩
  have HBAD := Lib.hid hbad
  clear hbad
  go_cut [143] from 81 to 143 (fun s wx => s = .bool bad ∧ wx = w2)
  case first =>
    have k0 : w2.cell? ⟨g, 0, none⟩ = some (.int .i64 W) := HIS.out.cell rfl
    have k1 : w2.cell? ⟨g, 1, none⟩ = some (.int .i64 H) := HIS.out.cell rfl
    have k3 : w2.cell? ⟨g, 3, none⟩ = some (.int .i64 (K : Nat)) := HIS.out.cell rfl
    go_wp2_with fail
    refine (low_ref A m cap d HD.out 26 2 (by omega) (by omega) hmc HCP.out _ HIS.out.arg).mono ?_
    rintro e wz ⟨rfl, hw⟩
    rw [hw]
    clear hw wz
    rw [show lowD d 26 2 = p from HPE.out.symm]
    by_cases y0 : p = 1
    · have f0_0 : ((p : Int) != 1) = false := bne_eq_false_iff_eq.2 (by omega)
      have Y0 := Lib.hid y0
      clear y0
      by_cases y1 : W < 1
      · have f1_0 : decide (W < 1) = true := decide_eq_true (by omega)
        have Y1 := Lib.hid y1
        clear y1
        have HV : Hid (true = bad) := Lib.hid (by
          have xY0 := Y0.out
          have xY1 := Y1.out
          rw [HBAD.out]
          exact (decide_eq_true (by omega)).symm)
        go_wp2_with fail
        go_meet
        exact ⟨congrArg Value.bool HV.out, rfl⟩
      · have f1_0 : decide (W < 1) = false := decide_eq_false (by omega)
        have Y1 := Lib.hid y1
        clear y1
        by_cases y2 : H = 0
        · have f2_0 : (H == 0) = true := beq_iff_eq.2 (by omega)
          have Y2 := Lib.hid y2
          clear y2
          have HV : Hid (true = bad) := Lib.hid (by
            have xY0 := Y0.out
            have xY1 := Y1.out
            have xY2 := Y2.out
            rw [HBAD.out]
            exact (decide_eq_true (by omega)).symm)
          go_wp2_with fail
          go_meet
          exact ⟨congrArg Value.bool HV.out, rfl⟩
        · have f2_0 : (H == 0) = false := beq_eq_false_iff_ne.2 (by omega)
          have Y2 := Lib.hid y2
          clear y2
          cases fb with
          | false =>
            have YF : Hid (¬(bits = 1 ∨ bits = 4 ∨ bits = 8 ∨ bits = 16 ∨ bits = 24 ∨ bits = 32)) := Lib.hid (of_decide_eq_false HFB.out.symm)
            have HV : Hid (true = bad) := Lib.hid (by
              have xY0 := Y0.out
              have xY1 := Y1.out
              have xY2 := Y2.out
              have xYF := YF.out
              rw [HBAD.out]
              exact (decide_eq_true (by omega)).symm)
            go_wp2_with fail
            go_meet
            exact ⟨congrArg Value.bool HV.out, rfl⟩
          | true =>
          have YF : Hid (bits = 1 ∨ bits = 4 ∨ bits = 8 ∨ bits = 16 ∨ bits = 24 ∨ bits = 32) := Lib.hid (of_decide_eq_true HFB.out.symm)
          by_cases y3 : K ≤ 3
          · have f3_0 : decide ((3 : Int) < (K : Int)) = false := decide_eq_false (by omega)
            have Y3 := Lib.hid y3
            clear y3
            by_cases y4 : K = 1
            · have f4_0 : ((K : Int) == 1) = true := beq_iff_eq.2 (by omega)
              have f4_1 : ((K : Int) == 2) = false := beq_eq_false_iff_ne.2 (by omega)
              have f4_2 : ((K : Int) == 3) = false := beq_eq_false_iff_ne.2 (by omega)
              have Y4 := Lib.hid y4
              clear y4
              by_cases y5 : bits = 8
              · have f5_0 : ((bits : Int) != 8) = false := bne_eq_false_iff_eq.2 (by omega)
                have Y5 := Lib.hid y5
                clear y5
                by_cases y6 : H < 0
                · have f6_0 : decide (H < 0) = true := decide_eq_true (by omega)
                  have Y6 := Lib.hid y6
                  clear y6
                  have HV : Hid (true = bad) := Lib.hid (by
                    have xY0 := Y0.out
                    have xY1 := Y1.out
                    have xY2 := Y2.out
                    have xYF := YF.out
                    have xY3 := Y3.out
                    have xY4 := Y4.out
                    have xY5 := Y5.out
                    have xY6 := Y6.out
                    rw [HBAD.out]
                    exact (decide_eq_true (by omega)).symm)
                  go_wp2_with fail
                  go_meet
                  exact ⟨congrArg Value.bool HV.out, rfl⟩
                · have f6_0 : decide (H < 0) = false := decide_eq_false (by omega)
                  have Y6 := Lib.hid y6
                  clear y6
                  have HV : Hid (false = bad) := Lib.hid (by
                    have xY0 := Y0.out
                    have xY1 := Y1.out
                    have xY2 := Y2.out
                    have xYF := YF.out
                    have xY3 := Y3.out
                    have xY4 := Y4.out
                    have xY5 := Y5.out
                    have xY6 := Y6.out
                    rw [HBAD.out]
                    exact (decide_eq_false (by omega)).symm)
                  go_wp2_with fail
                  go_meet
                  exact ⟨congrArg Value.bool HV.out, rfl⟩
              · have f5_0 : ((bits : Int) != 8) = true := bne_iff_ne.2 (by omega)
                have Y5 := Lib.hid y5
                clear y5
                have HV : Hid (true = bad) := Lib.hid (by
                  have xY0 := Y0.out
                  have xY1 := Y1.out
                  have xY2 := Y2.out
                  have xYF := YF.out
                  have xY3 := Y3.out
                  have xY4 := Y4.out
                  have xY5 := Y5.out
                  rw [HBAD.out]
                  exact (decide_eq_true (by omega)).symm)
                go_wp2_with fail
                go_meet
                exact ⟨congrArg Value.bool HV.out, rfl⟩
            · have f4_0 : ((K : Int) == 1) = false := beq_eq_false_iff_ne.2 (by omega)
              have Y4 := Lib.hid y4
              clear y4
              by_cases y7 : K = 2
              · have f7_0 : ((K : Int) == 2) = true := beq_iff_eq.2 (by omega)
                have f7_1 : ((K : Int) == 3) = false := beq_eq_false_iff_ne.2 (by omega)
                have Y7 := Lib.hid y7
                clear y7
                by_cases y8 : bits = 4
                · have f8_0 : ((bits : Int) != 4) = false := bne_eq_false_iff_eq.2 (by omega)
                  have Y8 := Lib.hid y8
                  clear y8
                  by_cases y9 : H < 0
                  · have f9_0 : decide (H < 0) = true := decide_eq_true (by omega)
                    have Y9 := Lib.hid y9
                    clear y9
                    have HV : Hid (true = bad) := Lib.hid (by
                      have xY0 := Y0.out
                      have xY1 := Y1.out
                      have xY2 := Y2.out
                      have xYF := YF.out
                      have xY3 := Y3.out
                      have xY4 := Y4.out
                      have xY7 := Y7.out
                      have xY8 := Y8.out
                      have xY9 := Y9.out
                      rw [HBAD.out]
                      exact (decide_eq_true (by omega)).symm)
                    go_wp2_with fail
                    go_meet
                    exact ⟨congrArg Value.bool HV.out, rfl⟩
                  · have f9_0 : decide (H < 0) = false := decide_eq_false (by omega)
                    have Y9 := Lib.hid y9
                    clear y9
                    have HV : Hid (false = bad) := Lib.hid (by
                      have xY0 := Y0.out
                      have xY1 := Y1.out
                      have xY2 := Y2.out
                      have xYF := YF.out
                      have xY3 := Y3.out
                      have xY4 := Y4.out
                      have xY7 := Y7.out
                      have xY8 := Y8.out
                      have xY9 := Y9.out
                      rw [HBAD.out]
                      exact (decide_eq_false (by omega)).symm)
                    go_wp2_with fail
                    go_meet
                    exact ⟨congrArg Value.bool HV.out, rfl⟩
                · have f8_0 : ((bits : Int) != 4) = true := bne_iff_ne.2 (by omega)
                  have Y8 := Lib.hid y8
                  clear y8
                  have HV : Hid (true = bad) := Lib.hid (by
                    have xY0 := Y0.out
                    have xY1 := Y1.out
                    have xY2 := Y2.out
                    have xYF := YF.out
                    have xY3 := Y3.out
                    have xY4 := Y4.out
                    have xY7 := Y7.out
                    have xY8 := Y8.out
                    rw [HBAD.out]
                    exact (decide_eq_true (by omega)).symm)
                  go_wp2_with fail
                  go_meet
                  exact ⟨congrArg Value.bool HV.out, rfl⟩
              · have f7_0 : ((K : Int) == 2) = false := beq_eq_false_iff_ne.2 (by omega)
                have Y7 := Lib.hid y7
                clear y7
                by_cases y10 : K = 3
                · have f10_0 : ((K : Int) == 3) = true := beq_iff_eq.2 (by omega)
                  have Y10 := Lib.hid y10
                  clear y10
                  by_cases y11 : bits = 16
                  · have f11_0 : ((bits : Int) != 16) = false := bne_eq_false_iff_eq.2 (by omega)
                    have Y11 := Lib.hid y11
                    clear y11
                    have HV : Hid (false = bad) := Lib.hid (by
                      have xY0 := Y0.out
                      have xY1 := Y1.out
                      have xY2 := Y2.out
                      have xYF := YF.out
                      have xY3 := Y3.out
                      have xY4 := Y4.out
                      have xY7 := Y7.out
                      have xY10 := Y10.out
                      have xY11 := Y11.out
                      rw [HBAD.out]
                      exact (decide_eq_false (by omega)).symm)
                    go_wp2_with fail
                    go_meet
                    exact ⟨congrArg Value.bool HV.out, rfl⟩
                  · have f11_0 : ((bits : Int) != 16) = true := bne_iff_ne.2 (by omega)
                    have Y11 := Lib.hid y11
                    clear y11
                    by_cases y12 : bits = 32
                    · have f12_0 : ((bits : Int) != 32) = false := bne_eq_false_iff_eq.2 (by omega)
                      have Y12 := Lib.hid y12
                      clear y12
                      have HV : Hid (false = bad) := Lib.hid (by
                        have xY0 := Y0.out
                        have xY1 := Y1.out
                        have xY2 := Y2.out
                        have xYF := YF.out
                        have xY3 := Y3.out
                        have xY4 := Y4.out
                        have xY7 := Y7.out
                        have xY10 := Y10.out
                        have xY11 := Y11.out
                        have xY12 := Y12.out
                        rw [HBAD.out]
                        exact (decide_eq_false (by omega)).symm)
                      go_wp2_with fail
                      go_meet
                      exact ⟨congrArg Value.bool HV.out, rfl⟩
                    · have f12_0 : ((bits : Int) != 32) = true := bne_iff_ne.2 (by omega)
                      have Y12 := Lib.hid y12
                      clear y12
                      have HV : Hid (true = bad) := Lib.hid (by
                        have xY0 := Y0.out
                        have xY1 := Y1.out
                        have xY2 := Y2.out
                        have xYF := YF.out
                        have xY3 := Y3.out
                        have xY4 := Y4.out
                        have xY7 := Y7.out
                        have xY10 := Y10.out
                        have xY11 := Y11.out
                        have xY12 := Y12.out
                        rw [HBAD.out]
                        exact (decide_eq_true (by omega)).symm)
                      go_wp2_with fail
                      go_meet
                      exact ⟨congrArg Value.bool HV.out, rfl⟩
                · have f10_0 : ((K : Int) == 3) = false := beq_eq_false_iff_ne.2 (by omega)
                  have Y10 := Lib.hid y10
                  clear y10
                  have HV : Hid (false = bad) := Lib.hid (by
                    have xY0 := Y0.out
                    have xY1 := Y1.out
                    have xY2 := Y2.out
                    have xYF := YF.out
                    have xY3 := Y3.out
                    have xY4 := Y4.out
                    have xY7 := Y7.out
                    have xY10 := Y10.out
                    rw [HBAD.out]
                    exact (decide_eq_false (by omega)).symm)
                  go_wp2_with fail
                  go_meet
                  exact ⟨congrArg Value.bool HV.out, rfl⟩
          · have f3_0 : decide ((3 : Int) < (K : Int)) = true := decide_eq_true (by omega)
            have Y3 := Lib.hid y3
            clear y3
            have HV : Hid (true = bad) := Lib.hid (by
              have xY0 := Y0.out
              have xY1 := Y1.out
              have xY2 := Y2.out
              have xYF := YF.out
              have xY3 := Y3.out
              rw [HBAD.out]
              exact (decide_eq_true (by omega)).symm)
            go_wp2_with fail
            go_meet
            exact ⟨congrArg Value.bool HV.out, rfl⟩
    · have f0_0 : ((p : Int) != 1) = true := bne_iff_ne.2 (by omega)
      have Y0 := Lib.hid y0
      clear y0
      have HV : Hid (true = bad) := Lib.hid (by
        have xY0 := Y0.out
        rw [HBAD.out]
        exact (decide_eq_true (by omega)).symm)
      go_wp2_with fail
      go_meet
      exact ⟨congrArg Value.bool HV.out, rfl⟩
  case rest =>
  obtain ⟨rfl, hwc⟩ := hcut
  obtain rfl : w2 = wc := hwc.symm
  clear hwc
  go_upto_if 143 with fail
  go_cut [] (fun wx => wx = w2 ∧ Hid (p = 1 ∧ 0 < W ∧ H ≠ 0 ∧ bmFine bits K H = true))
  case first =>
    by_cases hbd : ¬(p = 1 ∧ 0 < W ∧ H ≠ 0 ∧ bmFine bits K H = true)
    · have hb : bad = true := by rw [HBAD.out]; exact badB_iff.2 hbd
      have hE := HE.out
      clear HE
      rw [if_pos hbd] at hE
      have HE := Lib.hid hE
      subst hb
      clear hE hbd
      obtain ⟨z0, z1, z2, z3, z4, z5, z6, z7, z8, z9, z10, zf⟩ := zs_of HIS.out.res
      go_wp2_with fail
      refine bodyPost_ret (v := .tuple #[.agg #[.int .i64 0, .int .i64 0, .int .i64 0, .int .i64 0, .int .i64 0, .bool false, .int .u32 0, .int .u32 0, .int .u32 0, .int .u32 0, .slice none 0 0], .int .i64 4]) (by rw [results_cell_tmp rfl]; go_simp) rfl ?_
      exact inf_bad HEQ.out (k := 4) HE.out (by decide) (below11 HIS.out.bel (Nat.le_refl _) _ _ _ _ _ _ _ _ _ _ _)
    · have hb : bad = false := by
        rw [HBAD.out]
        exact Bool.eq_false_iff.2 (fun h => hbd (badB_iff.1 h))
      have HF := Lib.hid (Classical.not_not.1 hbd)
      subst hb
      clear hbd
      go_wp2_with fail
      go_meet
      exact ⟨rfl, HF⟩
  case rest =>
  obtain ⟨hwc, HF⟩ := hcut
  obtain rfl : w2 = wc := hwc.symm
  have hE := HE.out
  rw [if_neg (Classical.not_not.2 HF.out)] at hE
  refine (show ∀ a w', Code.wp Tryd.prog _ _ a w' → _ from by assumption) _ _ ?_
  exact info_mid A m cap d w E S g W H bits K O HD hmc HCP (by omega) (by omega) (by omega) HEQ l28 l30 l10 hWb hHb HS (Lib.hid (Classical.not_not.1 e4)) HWE HHE HBI HKE HOE (Lib.hid HF.out.2) (Lib.hid hE) w2 HIS _ _ _ _ _ _ _ _ _ _ _ _ _ _ _ _ _ _ _ _ _ _ _ _ _ _ _ _ _ _ _ _ _ _ _ _ _ _ _ _ _ _ _ _ _ _ _ _ _ _ _ _ _ _ _ _ _ _ _ _ _ _ _ _ _ _ _ _ _ _ _ _ _ _ _ _ _ _ _ _ _ _ _ _ _ _ _ _ _ _ _ _ _ _ _ _ _ _ _ _ _ _ _ _ _ _ _ _ _ _ _ _ _ _ _ _ _ _ _ _ _ _ _ _ _ _ _ _ _ _ _ _ _ _ _ _ _ _ _ _ _ _ _ _ _ _ _ _ _ _ _ _ _ _ _ _ _ _ _ _ _ _ _ _ _ _ _ _ _ _ _ _ _ _ _ _ _ _ _ _ _ _ _ _ _ _ _ _ _ _ _ _ _ _ _ _ _ _ _ _ _ _ _ _ _ _ _ _ _ _ _ _ _ _ _ _ _ _ _ _ _ _ _ _ _ _ _ _ _ _ _ _ _ _ _ _ _ _ _ _ _ _ _ _ _ _ _ _ _ _ _ _ _ _ _ _ _ _ _ _ _ _ _ _ _ _ _ _ _ _ _ _ _ _ _ _ _
end Go.Proofs.YtdooefnckdklmaaDoor
