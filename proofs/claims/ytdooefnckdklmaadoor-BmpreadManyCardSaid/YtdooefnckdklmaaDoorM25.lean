/- engraverref14.ReadInfo on any bytes: the masks. -/
import Derived.Test.YtdooefnckdklmaaDoorM24

namespace Go.Proofs.YtdooefnckdklmaaDoor
set_option maxRecDepth 100000
set_option linter.unusedVariables false
open Go.ChangeShapes Go.WideShapes Go.ChangeAt Go.RowKit

/-- The block of a number. -/
def blockOf (n : Nat) : Code → Option Code
  | .block id c => if id == n then some (.block id c) else blockOf n c
  | .seq a b => match blockOf n a with
    | some x => some x
    | none => blockOf n b
  | .cond _ a b => match blockOf n a with
    | some x => some x
    | none => blockOf n b
  | .loop c => blockOf n c
  | .scope c => blockOf n c
  | _ => none
noncomputable def blkM : Code := ((Tryd.f26.body.bind (blockOf 1)).getD .skip)
set_option maxRecDepth 1000000 in
set_option maxHeartbeats 8000000 in
theorem mask_loop (A : Option Addr) (m cap : Nat) (d : Nat → Nat) (w : World) (g : Nat) (W : Int) (N bits K O M : Nat) (dn : Bool) (HD : Hid (∀ i, d i < 256)) (hmc : m ≤ cap) (HCP : Hid (cap ≤ maxLen)) (hm1 : m ≤ 262144) (hM4 : 3 ≤ M ∧ M ≤ 4) (hmM : 54 + 4 * M ≤ m) (w5 : World) (HI5 : Hid (InfS g A m d w (infoC W (N : Nat) bits K O dn (mDef bits) (.slice none 0 0)) w5)) (Q : Exit → Act → World → Prop) (v1 v2 v3 v4 v6 v7 v8 v9 v12 v13 v14 v15 v16 v17 v18 v19 v20 v21 v22 v23 v24 v25 v26 v27 v28 v29 v30 v31 v32 v33 v34 v35 v36 v37 v38 v39 v40 v41 v42 v43 v44 v45 v46 v47 v48 v49 v50 v51 v52 v53 v54 v55 v56 v57 v58 v59 v60 v61 v62 v63 v64 v65 v66 v67 v68 v69 v70 v71 v72 v73 v74 v75 v76 v77 v78 v79 v80 v81 v82 v83 v84 v85 v86 v87 v88 v89 v90 v91 v92 v93 v94 v95 v96 v97 v98 v99 v100 v101 v102 v103 v104 v105 v106 v107 v108 v109 v110 v111 v112 v113 v114 v115 v116 v117 v118 v119 v120 v121 v122 v123 v124 v125 v126 v127 v128 v129 v130 v131 v132 v133 v134 v135 v136 v137 v138 v139 v140 v141 v142 v143 v144 v145 v146 v147 v148 v149 v150 v151 v152 v153 v154 v155 v156 v157 v158 v159 v160 v161 v162 v163 v164 v165 v166 v167 v168 v169 v170 v171 v172 v173 v174 v175 v176 v177 v178 v179 v180 v181 v182 v183 v184 v185 v186 v187 v188 v189 v190 v191 v192 v193 v194 v195 v196 v197 v198 v199 v200 v201 v202 v203 v204 v205 v206 v207 v208 v209 v210 v211 v212 v213 v214 v215 v216 v217 v218 v219 v220 v221 v222 v223 v224 v225 v226 v227 v228 v229 v230 v231 v232 v233 v234 v235 v236 v237 v238 v239 v240 v241 v242 v243 v244 v245 v246 v247 v248 v249 v250 v251 v252 v253 v254 v255 v256 v257 v258 v259 v260 v261 v262 v263 v264 v265 v266 v267 v268 v269 v270 v271 v272 v273 v274 v275 v276 v277 v278 v279 v280 v281 : Value)
    (hnorm : ∀ (w' : World) (u11 u184 u185 u186 u187 u188 u189 u190 u191 u192 u193 u194 u195 u196 u197 : Value), Hid (InfS g A m d w (infoC W (N : Nat) bits K O dn (fun j => if j < M then lowD d (54 + 4 * j) 4 else mDef bits j) (.slice none 0 0)) w') → Q .normal ⟨#[.slice A m cap, v1, v2, v3, v4, .pointer (some ⟨g, 0, none⟩), v6, v7, v8, v9, .int .i64 (M : Nat), u11, v12, v13, v14, v15, v16, v17, v18, v19, v20, v21, v22, v23, v24, v25, v26, v27, v28, v29, v30, v31, v32, v33, v34, v35, v36, v37, v38, v39, v40, v41, v42, v43, v44, v45, v46, v47, v48, v49, v50, v51, v52, v53, v54, v55, v56, v57, v58, v59, v60, v61, v62, v63, v64, v65, v66, v67, v68, v69, v70, v71, v72, v73, v74, v75, v76, v77, v78, v79, v80, v81, v82, v83, v84, v85, v86, v87, v88, v89, v90, v91, v92, v93, v94, v95, v96, v97, v98, v99, v100, v101, v102, v103, v104, v105, v106, v107, v108, v109, v110, v111, v112, v113, v114, v115, v116, v117, v118, v119, v120, v121, v122, v123, v124, v125, v126, v127, v128, v129, v130, v131, v132, v133, v134, v135, v136, v137, v138, v139, v140, v141, v142, v143, v144, v145, v146, v147, v148, v149, v150, v151, v152, v153, v154, v155, v156, v157, v158, v159, v160, v161, v162, v163, v164, v165, v166, v167, v168, v169, v170, v171, v172, v173, v174, v175, v176, v177, v178, v179, v180, v181, v182, v183, u184, u185, u186, u187, u188, u189, u190, u191, u192, u193, u194, u195, u196, u197, v198, v199, v200, v201, v202, v203, v204, v205, v206, v207, v208, v209, v210, v211, v212, v213, v214, v215, v216, v217, v218, v219, v220, v221, v222, v223, v224, v225, v226, v227, v228, v229, v230, v231, v232, v233, v234, v235, v236, v237, v238, v239, v240, v241, v242, v243, v244, v245, v246, v247, v248, v249, v250, v251, v252, v253, v254, v255, v256, v257, v258, v259, v260, v261, v262, v263, v264, v265, v266, v267, v268, v269, v270, v271, v272, v273, v274, v275, v276, v277, v278, v279, v280, v281], []⟩ w') :
    Code.wp Tryd.prog blkM Q ⟨#[.slice A m cap, v1, v2, v3, v4, .pointer (some ⟨g, 0, none⟩), v6, v7, v8, v9, .int .i64 (M : Nat), .int .i64 0, v12, v13, v14, v15, v16, v17, v18, v19, v20, v21, v22, v23, v24, v25, v26, v27, v28, v29, v30, v31, v32, v33, v34, v35, v36, v37, v38, v39, v40, v41, v42, v43, v44, v45, v46, v47, v48, v49, v50, v51, v52, v53, v54, v55, v56, v57, v58, v59, v60, v61, v62, v63, v64, v65, v66, v67, v68, v69, v70, v71, v72, v73, v74, v75, v76, v77, v78, v79, v80, v81, v82, v83, v84, v85, v86, v87, v88, v89, v90, v91, v92, v93, v94, v95, v96, v97, v98, v99, v100, v101, v102, v103, v104, v105, v106, v107, v108, v109, v110, v111, v112, v113, v114, v115, v116, v117, v118, v119, v120, v121, v122, v123, v124, v125, v126, v127, v128, v129, v130, v131, v132, v133, v134, v135, v136, v137, v138, v139, v140, v141, v142, v143, v144, v145, v146, v147, v148, v149, v150, v151, v152, v153, v154, v155, v156, v157, v158, v159, v160, v161, v162, v163, v164, v165, v166, v167, v168, v169, v170, v171, v172, v173, v174, v175, v176, v177, v178, v179, v180, v181, v182, v183, v184, v185, v186, v187, v188, v189, v190, v191, v192, v193, v194, v195, v196, v197, v198, v199, v200, v201, v202, v203, v204, v205, v206, v207, v208, v209, v210, v211, v212, v213, v214, v215, v216, v217, v218, v219, v220, v221, v222, v223, v224, v225, v226, v227, v228, v229, v230, v231, v232, v233, v234, v235, v236, v237, v238, v239, v240, v241, v242, v243, v244, v245, v246, v247, v248, v249, v250, v251, v252, v253, v254, v255, v256, v257, v258, v259, v260, v261, v262, v263, v264, v265, v266, v267, v268, v269, v270, v271, v272, v273, v274, v275, v276, v277, v278, v279, v280, v281], []⟩ w5 := by
  conv => arg 2; whnf
  have hcap := HCP.out
  unfold maxLen at hcap
  go_wp2_with fail
  go_loopw [11] (fun x wr => ∃ i : Nat, i ≤ M ∧ x = .int .i64 (i : Nat) ∧ InfS g A m d w (infoC W (N : Nat) bits K O dn (fun j => if j < i then lowD d (54 + 4 * j) 4 else mDef bits j) (.slice none 0 0)) wr) (fun x _ => M - (intOf x).toNat)
  case atStart => exact ⟨0, by omega, rfl, by
    have hf : (fun j => if j < 0 then lowD d (54 + 4 * j) 4 else mDef bits j) = mDef bits := by funext j; rw [if_neg (by omega)]
    rw [hf]
    exact HI5.out⟩
  case round =>
    obtain ⟨i, hi, rfl, hS⟩ := hrel
    have HS5 := Lib.hid hS
    clear hS
    by_cases hlt : i < M
    · obtain ⟨p4, hp4⟩ : ∃ p4, p4 = 4 * i := ⟨_, rfl⟩
      obtain ⟨q, hq⟩ : ∃ q, q = 54 + 4 * i := ⟨_, rfl⟩
      have y1 : (4 : Int) * (i : Int) = (p4 : Int) := by omega
      have y2 : (54 : Int) + (p4 : Int) = (q : Int) := by omega
      have hqm : q + 4 ≤ m := by omega
      have hv4 := lowD_4 HD.out q 4 (by omega)
      obtain ⟨v, hv⟩ : ∃ v, v = lowD d q 4 := ⟨_, rfl⟩
      rw [← hv] at hv4
      have hset : (infoC W (N : Nat) bits K O dn (fun j => if j < i then lowD d (54 + 4 * j) 4 else mDef bits j) (.slice none 0 0)).setIfInBounds (6 + i) (.int .u32 (v : Nat)) = infoC W (N : Nat) bits K O dn (fun j => if j < i + 1 then lowD d (54 + 4 * j) 4 else mDef bits j) (.slice none 0 0) := by
        refine infoC_set (by omega) (by rw [if_pos (by omega), hv, hq]) (fun j hj => ?_)
        by_cases h : j < i
        · rw [if_pos (by omega), if_pos h]
        · rw [if_neg (by omega), if_neg h]
      obtain ⟨ov, cp⟩ : ∃ ov, wr.cell? ⟨g, 6 + i, none⟩ = some ov := ⟨_, hp_cell HS5.out.hd (Array.getElem?_eq_getElem (by simp [infoC]; omega))⟩
      have fp := hp_froz HS5.out.hd (6 + i)
      have y3 : IntKind.u32.wrap (v : Int) = (v : Int) := IntWalk.u32_in _ (by omega)
      have HNX : Hid (InfS g A m d w (infoC W (N : Nat) bits K O dn (fun j => if j < i + 1 then lowD d (54 + 4 * j) 4 else mDef bits j) (.slice none 0 0)) (wr.setCell ⟨g, 6 + i, none⟩ (.int .u32 (v : Nat)))) := Lib.hid (hset ▸ HS5.out.set (6 + i) (.int .u32 (v : Nat)))
      have HVE := Lib.hid hv
      have hi4 : i < 4 := by omega
      clear hp4 hq hv hset
      go_wp2_with fail
      refine (low_ref A m cap d HD.out q 4 (by omega) hqm hmc HCP.out _ HS5.out.arg).mono ?_
      rintro e wz ⟨rfl, hw⟩
      rw [hw, ← HVE.out]
      clear hw wz
      go_wp2_with fail
      go_roundw
      case rel => exact ⟨i + 1, hlt, by go_num, HNX.out⟩
      case measure => simp [intOf]; omega
    · obtain rfl : M = i := by omega
      go_wp2_with fail
      first | exact HS5 | exact hnorm _ _ _ _ _ _ _ _ _ _ _ _ _ _ _ _ HS5
/-- The code from a region on, wherever it stands. -/
def partAt (n : Nat) : Code → Option Code
  | .seq a b => if beginsAt n a = true then some (.seq a b) else match partAt n a with
    | some x => some x
    | none => partAt n b
  | .block _ c => partAt n c
  | .scope c => partAt n c
  | .loop c => partAt n c
  | .cond _ a b => match partAt n a with
    | some x => some x
    | none => partAt n b
  | _ => none
noncomputable def part37 : Code := ((Tryd.f26.body.bind (partAt 37)).getD .skip)
set_option maxRecDepth 1000000 in
set_option maxHeartbeats 8000000 in
theorem mask_fin (A : Option Addr) (m : Nat) (d : Nat → Nat) (w : World) (E S g : Nat) (W : Int) (N bits K O e0 e1 : Nat) (dn : Bool) (fm : Nat → Nat) (HEQ : Hid (E = bmErr d m)) (HS2 : Hid (S = 40 ∨ S = 108)) (hS2 : S ≤ 108) (HE0 : Hid (e0 = 14 + S)) (he0 : e0 ≤ 122) (K3 : Hid (K = 3)) (HE1B : Hid (e1 = 14 + S + (if K = 3 ∧ S = 40 then 12 else 0))) (hb32 : bits ≤ 32) (HFL : Hid (∀ j, fm j < 4294967296))
    (w7 : World) (HS6 : Hid (InfS g A m d w (infoC W (N : Nat) bits K O dn fm (.slice none 0 0)) w7)) (HE : Hid (masksB fm bits = false → E = 4)) (Q : Exit → Act → World → Prop) (hret : ∀ a w', bodyPost Tryd.prog Tryd.f26 (infoPost d m w) .ret a w' → Q .ret a w') (v0 v1 v3 v7 v8 v10 v11 v12 v13 v14 v15 v16 v17 v18 v19 v20 v21 v22 v23 v24 v25 v26 v27 v28 v29 v30 v31 v32 v33 v34 v35 v36 v37 v38 v39 v40 v41 v42 v43 v44 v45 v46 v47 v48 v49 v50 v51 v52 v53 v54 v55 v56 v57 v58 v59 v60 v61 v62 v63 v64 v65 v66 v67 v68 v69 v70 v71 v72 v73 v74 v75 v76 v77 v78 v79 v80 v81 v82 v83 v84 v85 v86 v87 v88 v89 v90 v91 v92 v93 v94 v95 v96 v97 v98 v99 v100 v101 v102 v103 v104 v105 v106 v107 v108 v109 v110 v111 v112 v113 v114 v115 v116 v117 v118 v119 v120 v121 v122 v123 v124 v125 v126 v127 v128 v129 v130 v131 v132 v133 v134 v135 v136 v137 v138 v139 v140 v141 v142 v143 v144 v145 v146 v147 v148 v149 v150 v151 v152 v153 v154 v155 v156 v157 v158 v159 v160 v161 v162 v163 v164 v165 v166 v167 v168 v169 v170 v171 v172 v173 v174 v175 v176 v177 v178 v179 v180 v181 v182 v183 v184 v185 v186 v187 v188 v189 v190 v191 v192 v193 v194 v195 v196 v197 v198 v199 v200 v201 v202 v203 v204 v205 v206 v207 v208 v209 v210 v211 v212 v213 v214 v215 v216 v217 v218 v219 v220 v221 v222 v223 v224 v225 v226 v227 v228 v229 v230 v231 v232 v233 v234 v235 v236 v237 v238 v239 v240 v241 v242 v243 v244 v245 v246 v247 v248 v249 v250 v251 v252 v253 v254 v255 v256 v257 v258 v259 v260 v261 v262 v263 v264 v265 v266 v267 v268 v269 v270 v271 v272 v273 v274 v275 v276 v277 v278 v279 v280 v281 : Value)
    (hnorm : ∀ (w' : World) (u3 u198 u199 u200 u201 u202 u203 u204 u205 u206 u207 : Value), Hid (InfS g A m d w (infoC W (N : Nat) bits K O dn fm (.slice none 0 0)) w') → Hid (masksB fm bits = true) → Q .normal ⟨#[v0, v1, .pointer (some ⟨w.heap.size, 0, none⟩), u3, .int .i64 (S : Nat), .pointer (some ⟨g, 0, none⟩), .int .i64 (bits : Nat), v7, v8, .int .i64 (e1 : Nat), v10, v11, v12, v13, v14, v15, v16, v17, v18, v19, v20, v21, v22, v23, v24, v25, v26, v27, v28, v29, v30, v31, v32, v33, v34, v35, v36, v37, v38, v39, v40, v41, v42, v43, v44, v45, v46, v47, v48, v49, v50, v51, v52, v53, v54, v55, v56, v57, v58, v59, v60, v61, v62, v63, v64, v65, v66, v67, v68, v69, v70, v71, v72, v73, v74, v75, v76, v77, v78, v79, v80, v81, v82, v83, v84, v85, v86, v87, v88, v89, v90, v91, v92, v93, v94, v95, v96, v97, v98, v99, v100, v101, v102, v103, v104, v105, v106, v107, v108, v109, v110, v111, v112, v113, v114, v115, v116, v117, v118, v119, v120, v121, v122, v123, v124, v125, v126, v127, v128, v129, v130, v131, v132, v133, v134, v135, v136, v137, v138, v139, v140, v141, v142, v143, v144, v145, v146, v147, v148, v149, v150, v151, v152, v153, v154, v155, v156, v157, v158, v159, v160, v161, v162, v163, v164, v165, v166, v167, v168, v169, v170, v171, v172, v173, v174, v175, v176, v177, v178, v179, v180, v181, v182, v183, v184, v185, v186, v187, v188, v189, v190, v191, v192, v193, v194, v195, v196, v197, u198, u199, u200, u201, u202, u203, u204, u205, u206, u207, v208, v209, v210, v211, v212, v213, v214, v215, v216, v217, v218, v219, v220, v221, v222, v223, v224, v225, v226, v227, v228, v229, v230, v231, v232, v233, v234, v235, v236, v237, v238, v239, v240, v241, v242, v243, v244, v245, v246, v247, v248, v249, v250, v251, v252, v253, v254, v255, v256, v257, v258, v259, v260, v261, v262, v263, v264, v265, v266, v267, v268, v269, v270, v271, v272, v273, v274, v275, v276, v277, v278, v279, v280, v281], []⟩ w') :
    Code.wp Tryd.prog part37 Q ⟨#[v0, v1, .pointer (some ⟨w.heap.size, 0, none⟩), v3, .int .i64 (S : Nat), .pointer (some ⟨g, 0, none⟩), .int .i64 (bits : Nat), v7, v8, .int .i64 (e0 : Nat), v10, v11, v12, v13, v14, v15, v16, v17, v18, v19, v20, v21, v22, v23, v24, v25, v26, v27, v28, v29, v30, v31, v32, v33, v34, v35, v36, v37, v38, v39, v40, v41, v42, v43, v44, v45, v46, v47, v48, v49, v50, v51, v52, v53, v54, v55, v56, v57, v58, v59, v60, v61, v62, v63, v64, v65, v66, v67, v68, v69, v70, v71, v72, v73, v74, v75, v76, v77, v78, v79, v80, v81, v82, v83, v84, v85, v86, v87, v88, v89, v90, v91, v92, v93, v94, v95, v96, v97, v98, v99, v100, v101, v102, v103, v104, v105, v106, v107, v108, v109, v110, v111, v112, v113, v114, v115, v116, v117, v118, v119, v120, v121, v122, v123, v124, v125, v126, v127, v128, v129, v130, v131, v132, v133, v134, v135, v136, v137, v138, v139, v140, v141, v142, v143, v144, v145, v146, v147, v148, v149, v150, v151, v152, v153, v154, v155, v156, v157, v158, v159, v160, v161, v162, v163, v164, v165, v166, v167, v168, v169, v170, v171, v172, v173, v174, v175, v176, v177, v178, v179, v180, v181, v182, v183, v184, v185, v186, v187, v188, v189, v190, v191, v192, v193, v194, v195, v196, v197, v198, v199, v200, v201, v202, v203, v204, v205, v206, v207, v208, v209, v210, v211, v212, v213, v214, v215, v216, v217, v218, v219, v220, v221, v222, v223, v224, v225, v226, v227, v228, v229, v230, v231, v232, v233, v234, v235, v236, v237, v238, v239, v240, v241, v242, v243, v244, v245, v246, v247, v248, v249, v250, v251, v252, v253, v254, v255, v256, v257, v258, v259, v260, v261, v262, v263, v264, v265, v266, v267, v268, v269, v270, v271, v272, v273, v274, v275, v276, v277, v278, v279, v280, v281], []⟩ w7 := by
  conv => arg 2; whnf
  have HNORM := Lib.hid hnorm
  clear hnorm
  have he1b : e1 ≤ 134 := by
    have h1 := HE1B.out
    have h2 := HS2.out
    split at h1 <;> omega
  go_upto_if 199 with fail
  go_cut [9] from 198 to 201 (fun s wx => s = .int .i64 (e1 : Nat) ∧ wx = w7)
  case first =>
    by_cases s4 : S = 40
    · have q8 : ((S : Int) == 40) = true := beq_iff_eq.2 (by omega)
      have HV2 : Hid ((e0 : Int) + 12 = (e1 : Int)) := Lib.hid (by
        have h0 := HE0.out
        have h1 := HE1B.out
        rw [if_pos ⟨K3.out, s4⟩] at h1
        omega)
      clear s4
      go_wp2_with fail
      go_meet
      exact ⟨by rw [HV2.out], rfl⟩
    · have q8 : ((S : Int) == 40) = false := beq_eq_false_iff_ne.2 (by omega)
      have HV : Hid (e0 = e1) := Lib.hid (by rw [HE1B.out, if_neg (fun h => s4 h.2), HE0.out]; rfl)
      clear s4
      go_wp2_with fail
      go_meet
      exact ⟨by rw [HV.out], rfl⟩
  case rest =>
  obtain ⟨rfl, hwc⟩ := hcut
  obtain rfl : w7 = wc := hwc.symm
  clear hwc
  have c6 : w7.cell? ⟨g, 6, none⟩ = some (.int .u32 (fm 0 : Nat)) := HS6.out.cell rfl
  have c7 : w7.cell? ⟨g, 7, none⟩ = some (.int .u32 (fm 1 : Nat)) := HS6.out.cell rfl
  have c8 : w7.cell? ⟨g, 8, none⟩ = some (.int .u32 (fm 2 : Nat)) := HS6.out.cell rfl
  have c9 : w7.cell? ⟨g, 9, none⟩ = some (.int .u32 (fm 3 : Nat)) := HS6.out.cell rfl
  go_wp2_with fail
  refine (masks_ref fm HFL.out bits (by omega) _).mono ?_
  rintro e w8 ⟨rfl, hB⟩
  have HS8 := Lib.hid (HS6.out.below hB)
  clear hB c6 c7 c8 c9 HS6
  cases hmk : masksB fm bits with
  | false =>
    have HE4 := Lib.hid (HE.out hmk)
    clear hmk
    obtain ⟨z0, z1, z2, z3, z4, z5, z6, z7, z8, z9, z10, zf⟩ := zs_of HS8.out.res
    go_wp2_with fail
    try refine hret _ _ ?_
    refine bodyPost_ret (v := .tuple #[.agg #[.int .i64 0, .int .i64 0, .int .i64 0, .int .i64 0, .int .i64 0, .bool false, .int .u32 0, .int .u32 0, .int .u32 0, .int .u32 0, .slice none 0 0], .int .i64 4]) (by rw [results_cell_tmp rfl]; go_simp) rfl ?_
    exact inf_bad HEQ.out (k := 4) HE4.out (by decide) (below11 HS8.out.bel (Nat.le_refl _) _ _ _ _ _ _ _ _ _ _ _)
  | true =>
    have HMK := Lib.hid hmk
    clear hmk
    go_wp2_with fail
    exact HNORM.out _ _ _ _ _ _ _ _ _ _ _ _ HS8 HMK
noncomputable def tail27 : Code := ((Tryd.f26.body.bind (fromRegion 27)).getD .skip)
set_option maxRecDepth 1000000 in
set_option maxHeartbeats 8000000 in
theorem info_mask (A : Option Addr) (m cap : Nat) (d : Nat → Nat) (w : World) (E S g : Nat) (W H : Int) (N bits K O e0 : Nat) (dn : Bool) (HD : Hid (∀ i, d i < 256)) (hmc : m ≤ cap) (HCP : Hid (cap ≤ maxLen)) (hm1 : m ≤ 262144) (hm2 : 54 ≤ m) (HEQ : Hid (E = bmErr d m)) (l28 : bits < 65536) (l30 : K < 4294967296) (l10 : O < 4294967296) (he0b : e0 ≤ m)
    (HS : Hid (S = bmS d)) (HS2 : Hid (S = 40 ∨ S = 108)) (HE0 : Hid (e0 = 14 + S)) (HWE : Hid (W = bmW d)) (HHE : Hid (H = bmH d)) (HN : Hid (N = H.natAbs)) (HDN : Hid (dn = decide (H < 0))) (HBI : Hid (bits = bmBits d)) (HKE : Hid (K = bmK d)) (HOE : Hid (O = bmOff d)) (HFI : Hid (bits6 bits ∧ K ≤ 3 ∧ (K = 1 → bits = 8 ∧ 0 ≤ H) ∧ (K = 2 → bits = 4 ∧ 0 ≤ H) ∧ (K = 3 → bits = 16 ∨ bits = 32)))
    (HE : Hid (E = if K = 3 ∧ m < 54 + 4 * bmMany d then 2 else if K = 3 ∧ masksB (bmMask d) bits = false then 4 else if bits ≤ 8 ∧ 2 ^ bits < bmUsed d then 4 else if bits ≤ 8 ∧ m < bmE1 d + 4 * bmUsed d then 2 else if O < bmE2 d then 4 else if m < O then 2 else 0)) (w5 : World) (HI5 : Hid (InfS g A m d w (infoC W (N : Nat) bits K O dn (mDef bits) (.slice none 0 0)) w5)) (Kx : Act → World → Prop)
    (v1 v3 v7 v8 v10 v11 v12 v13 v14 v15 v16 v17 v18 v19 v20 v21 v22 v23 v24 v25 v26 v27 v28 v29 v30 v31 v32 v33 v34 v35 v36 v37 v38 v39 v40 v41 v42 v43 v44 v45 v46 v47 v48 v49 v50 v51 v52 v53 v54 v55 v56 v57 v58 v59 v60 v61 v62 v63 v64 v65 v66 v67 v68 v69 v70 v71 v72 v73 v74 v75 v76 v77 v78 v79 v80 v81 v82 v83 v84 v85 v86 v87 v88 v89 v90 v91 v92 v93 v94 v95 v96 v97 v98 v99 v100 v101 v102 v103 v104 v105 v106 v107 v108 v109 v110 v111 v112 v113 v114 v115 v116 v117 v118 v119 v120 v121 v122 v123 v124 v125 v126 v127 v128 v129 v130 v131 v132 v133 v134 v135 v136 v137 v138 v139 v140 v141 v142 v143 v144 v145 v146 v147 v148 v149 v150 v151 v152 v153 v154 v155 v156 v157 v158 v159 v160 v161 v162 v163 v164 v165 v166 v167 v168 v169 v170 v171 v172 v173 v174 v175 v176 v177 v178 v179 v180 v181 v182 v183 v184 v185 v186 v187 v188 v189 v190 v191 v192 v193 v194 v195 v196 v197 v198 v199 v200 v201 v202 v203 v204 v205 v206 v207 v208 v209 v210 v211 v212 v213 v214 v215 v216 v217 v218 v219 v220 v221 v222 v223 v224 v225 v226 v227 v228 v229 v230 v231 v232 v233 v234 v235 v236 v237 v238 v239 v240 v241 v242 v243 v244 v245 v246 v247 v248 v249 v250 v251 v252 v253 v254 v255 v256 v257 v258 v259 v260 v261 v262 v263 v264 v265 v266 v267 v268 v269 v270 v271 v272 v273 v274 v275 v276 v277 v278 v279 v280 v281 : Value) :
    Code.wp Tryd.prog tail27 (Exit.then Kx (bodyPost Tryd.prog Tryd.f26 (infoPost d m w))) ⟨#[.slice A m cap, v1, .pointer (some ⟨w.heap.size, 0, none⟩), v3, .int .i64 (S : Nat), .pointer (some ⟨g, 0, none⟩), .int .i64 (bits : Nat), v7, v8, .int .i64 (e0 : Nat), v10, v11, v12, v13, v14, v15, v16, v17, v18, v19, v20, v21, v22, v23, v24, v25, v26, v27, v28, v29, v30, v31, v32, v33, v34, v35, v36, v37, v38, v39, v40, v41, v42, v43, v44, v45, v46, v47, v48, v49, v50, v51, v52, v53, v54, v55, v56, v57, v58, v59, v60, v61, v62, v63, v64, v65, v66, v67, v68, v69, v70, v71, v72, v73, v74, v75, v76, v77, v78, v79, v80, v81, v82, v83, v84, v85, v86, v87, v88, v89, v90, v91, v92, v93, v94, v95, v96, v97, v98, v99, v100, v101, v102, v103, v104, v105, v106, v107, v108, v109, v110, v111, v112, v113, v114, v115, v116, v117, v118, v119, v120, v121, v122, v123, v124, v125, v126, v127, v128, v129, v130, v131, v132, v133, v134, v135, v136, v137, v138, v139, v140, v141, v142, v143, v144, v145, v146, v147, v148, v149, v150, v151, v152, v153, v154, v155, v156, v157, v158, v159, v160, v161, v162, v163, v164, v165, v166, v167, v168, v169, v170, v171, v172, v173, v174, v175, v176, v177, v178, v179, v180, v181, v182, v183, v184, v185, v186, v187, v188, v189, v190, v191, v192, v193, v194, v195, v196, v197, v198, v199, v200, v201, v202, v203, v204, v205, v206, v207, v208, v209, v210, v211, v212, v213, v214, v215, v216, v217, v218, v219, v220, v221, v222, v223, v224, v225, v226, v227, v228, v229, v230, v231, v232, v233, v234, v235, v236, v237, v238, v239, v240, v241, v242, v243, v244, v245, v246, v247, v248, v249, v250, v251, v252, v253, v254, v255, v256, v257, v258, v259, v260, v261, v262, v263, v264, v265, v266, v267, v268, v269, v270, v271, v272, v273, v274, v275, v276, v277, v278, v279, v280, v281], []⟩ w5 := by
  conv => arg 2; whnf
  have hcap := HCP.out
  unfold maxLen at hcap
  have hSb : S < 4294967296 := by have := HS2.out; omega
  have c3 : w5.cell? ⟨g, 3, none⟩ = some (.int .i64 (K : Nat)) := HI5.out.cell rfl
  go_upto_if 174 with fail
  clear c3
  obtain ⟨M, hM⟩ : ∃ M, M = bmMany d := ⟨_, rfl⟩
  obtain ⟨e1, he1⟩ : ∃ e1, e1 = bmE1 d := ⟨_, rfl⟩
  obtain ⟨fm, hfm⟩ : ∃ fm, fm = bmMask d := ⟨_, rfl⟩
  have hMb : M = if S = 108 then 4 else 3 := by rw [hM, HS.out]; rfl
  have he1b : e1 = 14 + S + (if K = 3 ∧ S = 40 then 12 else 0) := by rw [he1, HS.out, HKE.out]; rfl
  have hE := HE.out
  rw [← hM, ← he1, ← hfm] at hE
  have HM := Lib.hid hM
  have HE1 := Lib.hid he1
  have HFM := Lib.hid hfm
  have HMB := Lib.hid hMb
  have HE1B := Lib.hid he1b
  clear HE hM he1 hfm hMb he1b
  have HE := Lib.hid hE
  clear hE
  go_cut [9] (fun s9 wx => s9 = .int .i64 (e1 : Nat) ∧ Hid (InfS g A m d w (infoC W (N : Nat) bits K O dn fm (.slice none 0 0)) wx ∧ ¬(K = 3 ∧ m < 54 + 4 * M) ∧ ¬(K = 3 ∧ masksB fm bits = false)))
  case first =>
    by_cases k3 : K = 3
    · have q3 : ((K : Int) == 3) = true := beq_iff_eq.2 (by omega)
      have K3 := Lib.hid k3
      clear k3
      go_upto_if 176 with fail
      go_cut [10] (fun s wx => s = .int .i64 (M : Nat) ∧ wx = w5)
      case first =>
        by_cases s8 : S = 108
        · have q8 : ((S : Int) == 108) = true := beq_iff_eq.2 (by omega)
          have HV : Hid (4 = M) := Lib.hid (by rw [HMB.out, if_pos s8])
          clear s8
          go_wp2_with fail
          go_meet
          exact ⟨by rw [← HV.out]; rfl, rfl⟩
        · have q8 : ((S : Int) == 108) = false := beq_eq_false_iff_ne.2 (by omega)
          have HV : Hid (3 = M) := Lib.hid (by rw [HMB.out, if_neg s8])
          clear s8
          go_wp2_with fail
          go_meet
          exact ⟨by rw [← HV.out]; rfl, rfl⟩
      case rest =>
      obtain ⟨rfl, hwc⟩ := hcut
      obtain rfl : w5 = wc := hwc.symm
      clear hwc
      have hM4 : 3 ≤ M ∧ M ≤ 4 := by rw [HMB.out]; split <;> omega
      obtain ⟨q4, hq4⟩ : ∃ q4, q4 = 4 * M := ⟨_, rfl⟩
      have y1 : (4 : Int) * (M : Int) = (q4 : Int) := by omega
      have hE := HE.out
      rw [← hq4] at hE
      have HQ4 := Lib.hid hq4
      have hq4b : q4 ≤ 16 := by omega
      clear hq4 HE
      by_cases e7 : m < 54 + q4
      · have t7 : decide ((m : Int) < 54 + (q4 : Int)) = true := by simp; omega
        rw [if_pos ⟨K3.out, e7⟩] at hE
        have HE := Lib.hid hE
        clear hE e7
        obtain ⟨z0, z1, z2, z3, z4, z5, z6, z7, z8, z9, z10, zf⟩ := zs_of HI5.out.res
        go_wp2_with fail
        refine bodyPost_ret (v := .tuple #[.agg #[.int .i64 0, .int .i64 0, .int .i64 0, .int .i64 0, .int .i64 0, .bool false, .int .u32 0, .int .u32 0, .int .u32 0, .int .u32 0, .slice none 0 0], .int .i64 2]) (by rw [results_cell_tmp rfl]; go_simp) rfl ?_
        exact inf_bad HEQ.out (k := 2) HE.out (by decide) (below11 HI5.out.bel (Nat.le_refl _) _ _ _ _ _ _ _ _ _ _ _)
      have t7 : decide ((m : Int) < 54 + (q4 : Int)) = false := by simp; omega
      rw [if_neg (fun h => e7 h.2)] at hE
      have HE := Lib.hid hE
      clear hE
      go_upto_block 1 with fail
      clear t7 y1
      refine mask_loop A m cap d w g W N bits K O M dn HD hmc HCP hm1 hM4 (by have := HQ4.out; omega) w5 HI5 _ _ _ _ _ _ _ _ _ _ _ _ _ _ _ _ _ _ _ _ _ _ _ _ _ _ _ _ _ _ _ _ _ _ _ _ _ _ _ _ _ _ _ _ _ _ _ _ _ _ _ _ _ _ _ _ _ _ _ _ _ _ _ _ _ _ _ _ _ _ _ _ _ _ _ _ _ _ _ _ _ _ _ _ _ _ _ _ _ _ _ _ _ _ _ _ _ _ _ _ _ _ _ _ _ _ _ _ _ _ _ _ _ _ _ _ _ _ _ _ _ _ _ _ _ _ _ _ _ _ _ _ _ _ _ _ _ _ _ _ _ _ _ _ _ _ _ _ _ _ _ _ _ _ _ _ _ _ _ _ _ _ _ _ _ _ _ _ _ _ _ _ _ _ _ _ _ _ _ _ _ _ _ _ _ _ _ _ _ _ _ _ _ _ _ _ _ _ _ _ _ _ _ _ _ _ _ _ _ _ _ _ _ _ _ _ _ _ _ _ _ _ _ _ _ _ _ _ _ _ _ _ _ _ _ _ _ _ _ _ _ _ _ _ _ _ _ _ _ _ _ _ _ _ _ _ _ _ _ _ _ _ _ _ _ _ _ _ _ _ _ _ _ _ _ _ _ _ _ ?_
      intro w7 u11 u184 u185 u186 u187 u188 u189 u190 u191 u192 u193 u194 u195 u196 u197 HS5
      dsimp only [Exit.then, Exit.inBlock]
      have hf : (fun j => if j < M then lowD d (54 + 4 * j) 4 else mDef bits j) = fm := by
        rw [HFM.out]
        funext j
        unfold bmMask
        rw [← HKE.out, ← HM.out, ← HBI.out, K3.out]
        by_cases hj : j < M
        · rw [if_pos hj, if_pos ⟨rfl, hj⟩]
        · rw [if_neg hj, if_neg (fun h => hj h.2)]
      have hS := HS5.out
      rw [hf] at hS
      have HS6 := Lib.hid hS
      clear hS hf HS5
      have hfl : ∀ j, fm j < 4294967296 := fun j => by rw [HFM.out]; exact mask_lt HD.out j
      have HFL := Lib.hid hfl
      clear hfl
      have hb32 : bits ≤ 32 := by
        have := HFI.out.1
        unfold bits6 at this
        omega
      have hS108 : S ≤ 108 := by have := HS2.out; omega
      have he0c : e0 ≤ 122 := by have := HE0.out; omega
      have HEM : Hid (masksB fm bits = false → E = 4) := Lib.hid (fun h => by have h2 := HE.out; rwa [if_pos ⟨K3.out, h⟩] at h2)
      refine (show ∀ a w', Code.wp Tryd.prog _ _ a w' → _ from by assumption) _ _ ?_
      refine mask_fin A m d w E S g W N bits K O e0 e1 dn fm HEQ HS2 hS108 HE0 he0c K3 HE1B hb32 HFL w7 HS6 HEM _ ?hret _ _ _ _ _ _ _ _ _ _ _ _ _ _ _ _ _ _ _ _ _ _ _ _ _ _ _ _ _ _ _ _ _ _ _ _ _ _ _ _ _ _ _ _ _ _ _ _ _ _ _ _ _ _ _ _ _ _ _ _ _ _ _ _ _ _ _ _ _ _ _ _ _ _ _ _ _ _ _ _ _ _ _ _ _ _ _ _ _ _ _ _ _ _ _ _ _ _ _ _ _ _ _ _ _ _ _ _ _ _ _ _ _ _ _ _ _ _ _ _ _ _ _ _ _ _ _ _ _ _ _ _ _ _ _ _ _ _ _ _ _ _ _ _ _ _ _ _ _ _ _ _ _ _ _ _ _ _ _ _ _ _ _ _ _ _ _ _ _ _ _ _ _ _ _ _ _ _ _ _ _ _ _ _ _ _ _ _ _ _ _ _ _ _ _ _ _ _ _ _ _ _ _ _ _ _ _ _ _ _ _ _ _ _ _ _ _ _ _ _ _ _ _ _ _ _ _ _ _ _ _ _ _ _ _ _ _ _ _ _ _ _ _ _ _ _ _ _ _ _ _ _ _ _ _ _ _ _ _ _ _ _ _ _ _ _ _ _ _ _ _ _ _ _ _ _ _ ?hnorm
      case hret => exact fun a w' h => h
      intro w8 u3 u198 u199 u200 u201 u202 u203 u204 u205 u206 u207 HS8 HMK
      dsimp only [Exit.then, Exit.inBlock]
      go_wp2_with fail
      go_meet
      exact ⟨rfl, Lib.hid ⟨HS8.out, fun h => e7 (by have := HQ4.out; omega), fun h => by rw [HMK.out] at h; cases h.2⟩⟩
    · have q3 : ((K : Int) == 3) = false := beq_eq_false_iff_ne.2 (by omega)
      have HV : Hid (e0 = e1) := Lib.hid (by rw [HE1B.out, if_neg (fun h => k3 h.1), HE0.out]; rfl)
      have hf : mDef bits = fm := by
        rw [HFM.out]
        funext j
        unfold bmMask
        rw [← HKE.out, if_neg (fun h => k3 h.1), HBI.out]
      have K3 := Lib.hid k3
      have hS := HI5.out
      rw [hf] at hS
      have HS6 := Lib.hid hS
      clear hS hf k3
      go_wp2_with fail
      go_meet
      exact ⟨by rw [HV.out], Lib.hid ⟨HS6.out, fun h => K3.out h.1, fun h => K3.out h.1⟩⟩
  case rest =>
  obtain ⟨rfl, hc2⟩ := hcut
  obtain ⟨w6, hw6⟩ : ∃ w6, w6 = wc := ⟨_, rfl⟩
  rw [← hw6] at hc2 ⊢
  have HI6 := Lib.hid hc2.out.1
  have hE := HE.out
  rw [if_neg hc2.out.2.1, if_neg hc2.out.2.2] at hE
  clear HE hc2 hw6 HI5
  have HE := Lib.hid hE
  clear hE
  have he1b : e1 ≤ 134 := by
    have h1 := HE1B.out
    have h2 := HS2.out
    split at h1 <;> omega
  refine (show ∀ a w', Code.wp Tryd.prog _ _ a w' → _ from by assumption) _ _ ?_
  exact info_tail A m cap d w E S g W H N bits K O e1 dn fm HD hmc HCP (by omega) (by omega) HEQ l28 l10 he1b HWE HHE HN HDN HBI HKE HOE HFM HE1 (Lib.hid HFI.out.1) HE w6 HI6 _ _ _ _ _ _ _ _ _ _ _ _ _ _ _ _ _ _ _ _ _ _ _ _ _ _ _ _ _ _ _ _ _ _ _ _ _ _ _ _ _ _ _ _ _ _ _ _ _ _ _ _ _ _ _ _ _ _ _ _ _ _ _ _ _ _ _ _ _ _ _ _ _ _ _ _ _ _ _ _ _ _ _ _ _ _ _ _ _ _ _ _ _ _ _ _ _ _ _ _ _ _ _ _ _ _ _ _ _ _ _ _ _ _ _ _ _ _ _ _ _ _ _ _ _ _ _ _ _ _ _ _ _ _ _ _ _ _ _ _ _ _ _ _ _ _ _ _ _ _ _ _ _ _ _ _ _ _ _ _ _ _ _ _ _ _ _ _ _ _ _ _ _ _ _ _ _ _ _ _ _ _ _ _ _ _ _ _ _ _ _ _ _ _ _ _ _ _ _ _ _ _ _ _ _ _ _ _ _ _ _ _ _ _ _ _ _ _ _ _ _ _ _ _ _ _ _ _ _ _ _ _ _ _ _ _ _ _ _ _ _ _ _ _ _ _ _ _ _ _ _ _ _ _ _ _ _ _ _ _ _ _ _ _ _ _ _ _ _ _ _ _ _ _ _ _ _ _
end Go.Proofs.YtdooefnckdklmaaDoor
