/- engraverref14.runs: a picture told by runs. -/
import Derived.Test.YtdooefnckdklmaaDoorM29
import Derived.StillTailTactics
namespace Go.Proofs.YtdooefnckdklmaaDoor
set_option maxRecDepth 100000
set_option linter.unusedVariables false
open Go.ChangeShapes Go.WideShapes Go.ChangeAt Go.RowKit

/-- What a picture's reader answers: a picture of its own, or an error. -/
def picPost (a b : Nat) (r : (Nat → Nat) × Nat) (w : World) (e : Ending) (w' : World) : Prop :=
  Below w.heap.size w w' ∧
  ((r.2 = 0 ∧ ∃ A cap, 4 * (a * b) ≤ cap ∧ cap ≤ maxLen ∧ e = .returned (.tuple #[.agg #[.int .i64 (a : Nat), .int .i64 (b : Nat), .slice A (4 * (a * b)) cap], .int .i64 0]) ∧ Own w.heap.size w' A (4 * (a * b)) r.1) ∨
   (r.2 ≠ 0 ∧ e = .returned (.tuple #[.agg #[.int .i64 0, .int .i64 0, .slice none 0 0], .int .i64 (r.2 : Nat)])))
theorem puts_shift (b : Nat → Nat) (o n W H kind y v : Nat) (L : List P4) : ∀ (k i x : Nat) (c : Nat → Nat), o ≤ n → putsB W H L y (oneB (n - o) kind v (fun j => b (o + j))) k i x c = putsB W H L y (oneB n kind (o + v) b) k i x c
  | 0, i, x, c, _ => rfl
  | k + 1, i, x, c, h => by
    have e : oneB (n - o) kind v (fun j => b (o + j)) i = oneB n kind (o + v) b i := by
      unfold oneB
      generalize (if kind = 2 then i / 2 else i) = t
      by_cases hc : n - o ≤ v + t
      · rw [if_pos hc, if_pos (by omega)]
      · rw [if_neg hc, if_neg (by omega), Nat.add_assoc]
    rw [putsB, putsB, e]
    cases oneB n kind (o + v) b i with
    | none => rfl
    | some z =>
      dsimp only
      split
      · rfl
      · exact puts_shift b o n W H kind y v L k (i + 1) (x + 1) _ h
/-- Runs that begin at a byte. -/
theorem runs_shift (b : Nat → Nat) (o n W H kind : Nat) (L : List P4) (h : o ≤ n) : ∀ (K p x y : Nat) (c : Nat → Nat), runsB (fun j => b (o + j)) (n - o) W H kind L K p x y c = runsB b n W H kind L K (o + p) x y c
  | 0, p, x, y, c => rfl
  | K + 1, p, x, y, c => by
    by_cases h1 : n - o < p + 2
    · rw [runs_short h1, runs_short (by omega)]
    by_cases h2 : 0 < b (o + p)
    · rw [runs_run h1 h2 _ rfl, runs_run (p := o + p) (by omega) h2 _ rfl]
      show (if (putsB W H L y (fun j => some (nib kind (b (o + (p + 1))) j)) (b (o + p)) 0 x c).2.2 ≠ 0 then _ else _) = _
      rw [show o + (p + 1) = o + p + 1 from rfl]
      split
      · rfl
      · rw [runs_shift b o n W H kind L h K, show o + (p + 2) = o + p + 2 from rfl]
    have h3 : b (o + p) = 0 := by omega
    by_cases h4 : b (o + p + 1) = 0
    · rw [runs_line h1 h3 h4, runs_line (p := o + p) (by omega) h3 h4, runs_shift b o n W H kind L h K]
      rfl
    by_cases h5 : b (o + p + 1) = 1
    · rw [runs_end h1 h3 h5, runs_end (p := o + p) (by omega) h3 h5]
    by_cases h6 : b (o + p + 1) = 2
    · rw [runs_step h1 h3 h6, runs_step (p := o + p) (by omega) h3 h6]
      show (if n - o < p + 2 + 2 then (noB, 2) else if W < x + b (o + (p + 2)) ∨ H ≤ y + b (o + (p + 2 + 1)) then (noB, 4) else _) = _
      rw [show o + (p + 2) = o + p + 2 from rfl, show o + (p + 2 + 1) = o + p + 2 + 1 from rfl]
      by_cases h7 : n - o < p + 2 + 2
      · rw [if_pos h7, if_pos (by omega)]
      · rw [if_neg h7, if_neg (show ¬n < o + p + 2 + 2 by omega)]
        split
        · rfl
        · rw [runs_shift b o n W H kind L h K]
          rfl
    · have h8 : 2 < b (o + p + 1) := by omega
      rw [runs_one h1 h3 h8 _ rfl, runs_one (p := o + p) (by omega) h3 h8 _ rfl]
      show (if (putsB W H L y (oneB (n - o) kind (p + 2) (fun j => b (o + j))) (b (o + (p + 1))) 0 x c).2.2 ≠ 0 then _ else _) = _
      rw [puts_shift b o n W H kind y (p + 2) L _ _ _ _ h, show o + (p + 1) = o + p + 1 from rfl, show o + (p + 2) = o + p + 2 from rfl]
      split
      · rfl
      · rw [runs_shift b o n W H kind L h K, ← Nat.add_assoc]
        rfl
/-- The state of runs. -/
structure RuS (w : World) (rb W H n4 cap' : Nat) (A' : Option Addr) (C : Array Value) (B : Option Addr) (m : Nat) (b : Nat → Nat) (AC : Option Addr) (n cc : Nat) (L : List P4) (ck : Nat → Nat) (wr : World) : Prop where
  box : wr.heap[w.heap.size]? = some (.cells C 70 (0, 0))
  res : wr.heap[w.heap.size + 1]? = some (.cells #[.int .i64 0, .int .i64 0, .slice none 0 0] 26 (0, 0))
  ras : wr.heap[rb]? = some (.cells #[.int .i64 (W : Nat), .int .i64 (H : Nat), .slice A' n4 cap'] 26 (0, 0))
  own : Own (w.heap.size + 2) wr A' n4 ck
  arg : Byt wr B m b
  col : Sl wr (.slice AC n cc) 4 n (cellsP L)
  bel : Below w.heap.size w wr
  argb : 0 < m → ∀ a, B = some a → a.block < w.heap.size
  colb : 0 < n → ∀ a, AC = some a → a.block < w.heap.size
  far : ∀ k, 0 < n4 → A' = some ⟨k, 0, none⟩ → k ≠ rb
section
variable {w wr w' : World} {rb W H n4 cap' m n cc : Nat} {A' B AC : Option Addr} {C : Array Value} {b ck : Nat → Nat} {L : List P4}
theorem RuS.below (h : RuS w rb W H n4 cap' A' C B m b AC n cc L ck wr) (hB : Below wr.heap.size wr w') : RuS w rb W H n4 cap' A' C B m b AC n cc L ck w' :=
  ⟨hp_below h.box hB (lt_heap h.box), hp_below h.res hB (lt_heap h.res), hp_below h.ras hB (lt_heap h.ras), h.own.below hB, h.arg.below hB, h.col.below hB, h.bel.trans (hB.mono h.bel.size), h.argb, h.colb, h.far⟩
theorem RuS.drewN (h : RuS w rb W H n4 cap' A' C B m b AC n cc L ck wr) (q : Nat) : RuS w rb W H n4 cap' A' C B m b AC n cc L ck (wr.drewN q) := h.below (below_drewN (Below.refl _ _) q)
theorem RuS.drew (h : RuS w rb W H n4 cap' A' C B m b AC n cc L ck wr) : RuS w rb W H n4 cap' A' C B m b AC n cc L ck wr.drew := h.below (Below.refl _ _).drew
/-- A pixel is put. -/
theorem RuS.put (h : RuS w rb W H n4 cap' A' C B m b AC n cc L ck wr) {x y : Int} {P : P4} {e : Ending} (hp : setPost (w.heap.size + 2) (W : Nat) (H : Nat) A' n4 ck x y P wr e w') (hbs : w.heap.size + 2 ≤ wr.heap.size) : RuS w rb W H n4 cap' A' C B m b AC n cc L (setD (W : Nat) (H : Nat) n4 ck x y P) w' := by
  obtain ⟨_, h1, h2, h3⟩ := hp
  have hB := h1 hbs
  refine ⟨hp_below h.box hB (by omega), hp_below h.res hB (by omega), h2 rb _ h.ras h.far, h3, fun h0 => ?_, ⟨h.col.1, ?_⟩, h.bel.trans (hB.mono (by omega)), h.argb, h.colb, h.far⟩
  · obtain ⟨bk, of, e1, e2, e3⟩ := h.arg h0
    have hb := h.argb h0 _ e1
    dsimp only at hb
    exact ⟨bk, of, e1, Nat.lt_of_lt_of_le e2 hB.size, fun j hj => (hB.cell (p := ⟨bk, of + j, none⟩) (by dsimp only; omega)).trans (e3 j hj)⟩
  · obtain ⟨A2, c2, he, q1, q2, q3⟩ := h.col.2
    refine ⟨A2, c2, he, q1, q2, fun h0 => ?_⟩
    cases he
    obtain ⟨bk, of, e1, e2, e3⟩ := q3 h0
    have hb := h.colb h0 _ e1
    dsimp only at hb
    exact ⟨bk, of, e1, Nat.lt_of_lt_of_le e2 hB.size, fun j hj => (hB.cell (p := ⟨bk, of + j, none⟩) (by dsimp only; omega)).trans (e3 j hj)⟩
theorem ru_bad {R : (Nat → Nat) × Nat} {k : Nat} (hk : R = (noB, k)) (h0 : k ≠ 0) (hB : Below w.heap.size w wr) (v0 v1 v2 : Value) : picPost W H R w (.returned (.tuple #[.agg #[.int .i64 0, .int .i64 0, .slice none 0 0], .int .i64 (k : Nat)])) (((wr.setCell ⟨w.heap.size + 1, 0, none⟩ v0).setCell ⟨w.heap.size + 1, 1, none⟩ v1).setCell ⟨w.heap.size + 1, 2, none⟩ v2) := by
  subst hk
  exact ⟨((hB.setCell (p := ⟨w.heap.size + 1, 0, none⟩) (Nat.le_succ _) _).setCell (p := ⟨w.heap.size + 1, 1, none⟩) (Nat.le_succ _) _).setCell (p := ⟨w.heap.size + 1, 2, none⟩) (Nat.le_succ _) _, .inr ⟨h0, rfl⟩⟩
end
/-- The block of a number. -/
def findBlock (n : Nat) : Code → Option Code
  | .block id c => if id == n then some (.block id c) else findBlock n c
  | .seq a b => match findBlock n a with
    | some x => some x
    | none => findBlock n b
  | .cond _ a b => match findBlock n a with
    | some x => some x
    | none => findBlock n b
  | .loop c => findBlock n c
  | .scope c => findBlock n c
  | _ => none
noncomputable def blkA : Code := ((Tryd.f27.body.bind (findBlock 5)).getD .skip)
set_option maxRecDepth 1000000 in
set_option maxHeartbeats 8000000 in
theorem runs_A (W H bits kind off n4 cap' rb : Nat) (A' : Option Addr) (dn : Bool) (f : Nat → Nat) (AC : Option Addr) (n cc : Nat) (L : List P4) (bk of m cap : Nat) (b : Nat → Nat) (HBT : Hid (∀ i, b i < 256)) (HKD : Hid (kind = 1 ∨ kind = 2)) (hW : 1 ≤ W ∧ W ≤ 256) (hH : 1 ≤ H ∧ H ≤ 256) (HLN : Hid (L.length = n)) (hn2 : n ≤ 256) (hm : m ≤ 262144) (hmc : m ≤ cap) (hcap : cap ≤ 2 ^ 63 - 1) (hn' : n4 ≤ cap') (HCX : Hid (cap' ≤ maxLen)) (HMAY : Hid (mayB (W : Nat) (H : Nat) n4 = true)) (w : World) (R : (Nat → Nat) × Nat)
    (p2 x y nn v : Nat) (ck : Nat → Nat) (hx : x ≤ W) (hp2 : p2 ≤ m) (hy : y ≤ m + 257) (hnn8 : nn < 256) (hv8 : v < 256) (R1 : Nat × (Nat → Nat) × Nat) (HR1 : Hid (R1 = putsB W H L y (fun j => some (nib kind v j)) nn 0 x ck)) (HRUN : Hid (R1.2.2 ≠ 0 → R = (noB, R1.2.2))) (w6 : World) (HS : Hid (RuS w rb W H n4 cap' A' (infoC (W : Nat) (H : Nat) bits kind off dn f (.slice AC n cc)) (some ⟨bk, of, none⟩) m b AC n cc L ck w6)) (Q : Exit → Act → World → Prop)
    (hret : ∀ a w', bodyPost Tryd.prog Tryd.f27 (picPost W H R w) .ret a w' → Q .ret a w') (v0 v3 v5 v7 v14 v15 v16 v17 v18 v19 v20 v21 v22 v23 v24 v25 v26 v27 v28 v29 v30 v31 v32 v33 v34 v35 v36 v37 v38 v39 v40 v41 v42 v43 v44 v45 v46 v47 v48 v49 v50 v51 v52 v53 v54 v55 v56 v57 v58 v59 v60 v61 v62 v63 v64 v65 v66 v67 v68 v69 v70 v71 v72 v73 v74 v75 v76 v77 v78 v79 v80 v81 v82 v83 v84 v85 v86 v87 v88 v89 v90 v91 v92 v93 v94 v95 v96 v97 v98 v99 v100 v101 v102 v103 v104 v105 v106 v107 v108 v109 v110 v111 v112 v113 v114 v115 v116 v117 v118 v119 v120 v121 v122 v123 v124 v125 v126 v127 v128 v129 v130 v131 v132 v133 v134 v135 v136 v137 v138 v139 v140 v141 v142 v143 v144 v145 v146 v147 v148 v149 v150 v151 v152 v153 v154 v155 v156 v157 v158 v159 v160 v161 v162 v163 v164 v165 v166 v167 v168 v169 v170 v171 v172 v173 v174 v175 v176 v177 v178 v179 v180 v181 v182 v183 v184 v185 v186 v187 v188 v189 v190 v191 v192 v193 v194 v195 v196 v197 v198 v199 v200 v201 v202 v203 v204 v205 v206 v207 v208 v209 v210 v211 v212 v213 v214 v215 v216 v217 v218 v219 v220 v221 v222 v223 v224 v225 v226 v227 v228 v229 v230 v231 v232 v233 v234 : Value)
    (hnorm : ∀ (x1 : Nat) (ck1 : Nat → Nat) (w' : World) (u5 u13 u14 u135 u136 u137 u138 u139 u140 u141 u142 u143 u144 u145 u146 u147 u148 u149 u150 u151 u152 u153 u154 u155 u156 u157 u158 u159 u160 u161 u162 u163 u164 u165 u166 u167 u168 u169 u170 u171 u172 u173 u174 u175 u176 u177 u178 u179 u180 u181 u182 u183 u184 u185 u186 u187 u188 : Value), x1 ≤ W → Hid (RuS w rb W H n4 cap' A' (infoC (W : Nat) (H : Nat) bits kind off dn f (.slice AC n cc)) (some ⟨bk, of, none⟩) m b AC n cc L ck1 w') → Hid (R1 = (x1, ck1, 0)) → Q .normal ⟨#[v0, .slice (some ⟨bk, of, none⟩) m cap, .pointer (some ⟨w.heap.size, 0, none⟩), v3, .pointer (some ⟨w.heap.size + 1, 0, none⟩), u5, .pointer (some ⟨rb, 0, none⟩), v7, .int .i64 (p2 : Nat), .int .i64 (x1 : Nat), .int .i64 (y : Nat), .int .i64 (nn : Nat), .int .i64 (v : Nat), u13, u14, v15, v16, v17, v18, v19, v20, v21, v22, v23, v24, v25, v26, v27, v28, v29, v30, v31, v32, v33, v34, v35, v36, v37, v38, v39, v40, v41, v42, v43, v44, v45, v46, v47, v48, v49, v50, v51, v52, v53, v54, v55, v56, v57, v58, v59, v60, v61, v62, v63, v64, v65, v66, v67, v68, v69, v70, v71, v72, v73, v74, v75, v76, v77, v78, v79, v80, v81, v82, v83, v84, v85, v86, v87, v88, v89, v90, v91, v92, v93, v94, v95, v96, v97, v98, v99, v100, v101, v102, v103, v104, v105, v106, v107, v108, v109, v110, v111, v112, v113, v114, v115, v116, v117, v118, v119, v120, v121, v122, v123, v124, v125, v126, v127, v128, v129, v130, v131, v132, v133, v134, u135, u136, u137, u138, u139, u140, u141, u142, u143, u144, u145, u146, u147, u148, u149, u150, u151, u152, u153, u154, u155, u156, u157, u158, u159, u160, u161, u162, u163, u164, u165, u166, u167, u168, u169, u170, u171, u172, u173, u174, u175, u176, u177, u178, u179, u180, u181, u182, u183, u184, u185, u186, u187, u188, v189, v190, v191, v192, v193, v194, v195, v196, v197, v198, v199, v200, v201, v202, v203, v204, v205, v206, v207, v208, v209, v210, v211, v212, v213, v214, v215, v216, v217, v218, v219, v220, v221, v222, v223, v224, v225, v226, v227, v228, v229, v230, v231, v232, v233, v234], []⟩ w') :
    Code.wp Tryd.prog blkA Q ⟨#[v0, .slice (some ⟨bk, of, none⟩) m cap, .pointer (some ⟨w.heap.size, 0, none⟩), v3, .pointer (some ⟨w.heap.size + 1, 0, none⟩), v5, .pointer (some ⟨rb, 0, none⟩), v7, .int .i64 (p2 : Nat), .int .i64 (x : Nat), .int .i64 (y : Nat), .int .i64 (nn : Nat), .int .i64 (v : Nat), .int .i64 0, v14, v15, v16, v17, v18, v19, v20, v21, v22, v23, v24, v25, v26, v27, v28, v29, v30, v31, v32, v33, v34, v35, v36, v37, v38, v39, v40, v41, v42, v43, v44, v45, v46, v47, v48, v49, v50, v51, v52, v53, v54, v55, v56, v57, v58, v59, v60, v61, v62, v63, v64, v65, v66, v67, v68, v69, v70, v71, v72, v73, v74, v75, v76, v77, v78, v79, v80, v81, v82, v83, v84, v85, v86, v87, v88, v89, v90, v91, v92, v93, v94, v95, v96, v97, v98, v99, v100, v101, v102, v103, v104, v105, v106, v107, v108, v109, v110, v111, v112, v113, v114, v115, v116, v117, v118, v119, v120, v121, v122, v123, v124, v125, v126, v127, v128, v129, v130, v131, v132, v133, v134, v135, v136, v137, v138, v139, v140, v141, v142, v143, v144, v145, v146, v147, v148, v149, v150, v151, v152, v153, v154, v155, v156, v157, v158, v159, v160, v161, v162, v163, v164, v165, v166, v167, v168, v169, v170, v171, v172, v173, v174, v175, v176, v177, v178, v179, v180, v181, v182, v183, v184, v185, v186, v187, v188, v189, v190, v191, v192, v193, v194, v195, v196, v197, v198, v199, v200, v201, v202, v203, v204, v205, v206, v207, v208, v209, v210, v211, v212, v213, v214, v215, v216, v217, v218, v219, v220, v221, v222, v223, v224, v225, v226, v227, v228, v229, v230, v231, v232, v233, v234], []⟩ w6 := by
  conv => arg 2; whnf
  go_wp2_with fail
  go_loopw [9, 13] (fun s9 s13 wr => ∃ (i x1 : Nat) (ck1 : Nat → Nat), i ≤ nn ∧ s13 = .int .i64 (i : Nat) ∧ s9 = .int .i64 (x1 : Nat) ∧ x1 ≤ W ∧ RuS w rb W H n4 cap' A' (infoC (W : Nat) (H : Nat) bits kind off dn f (.slice AC n cc)) (some ⟨bk, of, none⟩) m b AC n cc L ck1 wr ∧ Hid (R1 = putsB W H L y (fun j => some (nib kind v j)) (nn - i) i x1 ck1)) (fun _ s13 _ => nn - (intOf s13).toNat)
  case atStart => exact ⟨0, x, ck, by omega, rfl, rfl, hx, HS.out, HR1⟩
  case round =>
    clear HS HR1
    obtain ⟨i, x1, ck1, hi, rfl, rfl, hx1, hS1, hE1⟩ := hrel
    have HS1 := Lib.hid hS1
    clear hS1
    by_cases hin : i < nn
    · have hE2 := hE1.out
      rw [show nn - i = (nn - (i + 1)) + 1 by omega] at hE2
      have HE9 := Lib.hid hE2
      clear hE1 hE2
      go_upto_region 33 with fail
      go_cut [148] from 141 to 148 (fun s wx => s = .bool (decide (kind = 2 ∧ i % 2 = 0)) ∧ wx = wr)
      case first =>
        have c3 : wr.cell? ⟨w.heap.size, 3, none⟩ = some (.int .i64 (kind : Nat)) := hp_cell HS1.out.box rfl
        rcases HKD.out with hk1 | hk2
        · have q1 : ((kind : Int) == 2) = false := beq_eq_false_iff_ne.2 (by omega)
          have HV : Hid (false = decide (kind = 2 ∧ i % 2 = 0)) := Lib.hid (decide_eq_false (by omega)).symm
          clear hk1
          go_wp2_with fail
          go_meet
          exact ⟨by rw [← HV.out], rfl⟩
        · have q1 : ((kind : Int) == 2) = true := beq_iff_eq.2 (by omega)
          obtain ⟨r2, hr2⟩ : ∃ r2, r2 = i % 2 := ⟨_, rfl⟩
          have g1 : (i : Int) % 2 = (r2 : Int) := by omega
          have g2 : Int.tmod (i : Int) 2 = (r2 : Int) := by rw [Int.tmod_eq_emod_of_nonneg (by omega), g1]
          by_cases hr0 : r2 = 0
          · have g3 : ((r2 : Int) == 0) = true := beq_iff_eq.2 (by omega)
            have HV : Hid (true = decide (kind = 2 ∧ i % 2 = 0)) := Lib.hid (decide_eq_true (by omega)).symm
            clear hk2 hr0 hr2
            go_wp2_with fail
            go_meet
            exact ⟨by rw [← HV.out], rfl⟩
          · have g3 : ((r2 : Int) == 0) = false := beq_eq_false_iff_ne.2 (by omega)
            have HV : Hid (false = decide (kind = 2 ∧ i % 2 = 0)) := Lib.hid (decide_eq_false (by omega)).symm
            clear hk2 hr0 hr2
            go_wp2_with fail
            go_meet
            exact ⟨by rw [← HV.out], rfl⟩
      case rest =>
      obtain ⟨rfl, hwc⟩ := hcut
      obtain rfl : wr = wc := hwc.symm
      clear hwc
      obtain ⟨ev, hev⟩ : ∃ ev, ev = decide (kind = 2 ∧ i % 2 = 0) := ⟨_, rfl⟩
      rw [← hev]
      have HEV := Lib.hid hev
      clear hev
      obtain ⟨z, hz⟩ : ∃ z, z = nib kind v i := ⟨_, rfl⟩
      have hz8 : z < 256 := by
        rw [hz]
        unfold nib
        (repeat' split) <;> omega
      have HZ := Lib.hid hz
      clear hz
      go_upto_if 148 with fail
      go_cut [14] from 149 to 155 (fun s wx => s = .int .i64 (z : Nat) ∧ wx = wr)
      case first =>
        have c3 : wr.cell? ⟨w.heap.size, 3, none⟩ = some (.int .i64 (kind : Nat)) := hp_cell HS1.out.box rfl
        cases ev with
        | true =>
          have g1 : (v : Int) / 16 = (z : Int) := by
            have h := of_decide_eq_true HEV.out.symm
            have h2 := HZ.out
            rw [nib, if_pos h.1, if_pos h.2] at h2
            omega
          go_wp2_with fail
          go_meet
          exact ⟨rfl, rfl⟩
        | false =>
          rcases HKD.out with hk1 | hk2
          · have q1 : ((kind : Int) == 2) = false := beq_eq_false_iff_ne.2 (by omega)
            have HVZ : Hid (v = z) := Lib.hid (by rw [HZ.out, nib, if_neg (by omega)])
            clear hk1
            go_wp2_with fail
            go_meet
            exact ⟨by rw [HVZ.out], rfl⟩
          · have q1 : ((kind : Int) == 2) = true := beq_iff_eq.2 (by omega)
            have g1 := and15 v (by omega)
            have g2 : v % 16 = z := by
              have h := of_decide_eq_false HEV.out.symm
              have h2 := HZ.out
              rw [nib, if_pos hk2, if_neg (fun h3 => h ⟨hk2, h3⟩)] at h2
              exact h2.symm
            rw [g2] at g1
            clear hk2 g2
            go_wp2_with fail
            go_meet
            exact ⟨rfl, rfl⟩
      case rest =>
      obtain ⟨rfl, hwc⟩ := hcut
      obtain rfl : wr = wc := hwc.symm
      clear hwc
      have c0 : wr.cell? ⟨w.heap.size, 0, none⟩ = some (.int .i64 (W : Nat)) := hp_cell HS1.out.box rfl
      have c1 : wr.cell? ⟨w.heap.size, 1, none⟩ = some (.int .i64 (H : Nat)) := hp_cell HS1.out.box rfl
      have c10 : wr.cell? ⟨w.heap.size, 10, none⟩ = some (.slice AC n cc) := hp_cell HS1.out.box rfl
      have hG : (fun j => some (nib kind v j)) i = some z := by
        show some (nib kind v i) = some z
        rw [HZ.out]
      have hE9 := HE9.out
      by_cases b1 : W ≤ x1
      · have t1 : decide ((W : Int) ≤ (x1 : Int)) = true := decide_eq_true (by omega)
        rw [puts_no (G := fun j => some (nib kind v j)) hG (.inl b1)] at hE9
        have HE8 := Lib.hid hE9
        clear hE9 hG HE9
        have r0 := hp_cell (j := 0) HS1.out.res rfl
        have r1 := hp_cell (j := 1) HS1.out.res rfl
        have r2 := hp_cell (j := 2) HS1.out.res rfl
        have rf := hp_froz HS1.out.res
        go_wp2_with fail
        refine hret _ _ ?_
        refine bodyPost_ret (v := .tuple #[.agg #[.int .i64 0, .int .i64 0, .slice none 0 0], .int .i64 4]) (by rw [results_cell_tmp rfl]; go_simp) rfl ?_
        exact ru_bad (k := 4) (by have h := HRUN.out (by rw [HE8.out]; simp); rw [h, HE8.out]) (by decide) HS1.out.bel _ _ _
      have t1 : decide ((W : Int) ≤ (x1 : Int)) = false := decide_eq_false (by omega)
      by_cases b2 : H ≤ y
      · have t2 : decide ((H : Int) ≤ (y : Int)) = true := decide_eq_true (by omega)
        rw [puts_no (G := fun j => some (nib kind v j)) hG (.inr (.inl b2))] at hE9
        have HE8 := Lib.hid hE9
        clear hE9 hG HE9
        have r0 := hp_cell (j := 0) HS1.out.res rfl
        have r1 := hp_cell (j := 1) HS1.out.res rfl
        have r2 := hp_cell (j := 2) HS1.out.res rfl
        have rf := hp_froz HS1.out.res
        go_wp2_with fail
        refine hret _ _ ?_
        refine bodyPost_ret (v := .tuple #[.agg #[.int .i64 0, .int .i64 0, .slice none 0 0], .int .i64 4]) (by rw [results_cell_tmp rfl]; go_simp) rfl ?_
        exact ru_bad (k := 4) (by have h := HRUN.out (by rw [HE8.out]; simp); rw [h, HE8.out]) (by decide) HS1.out.bel _ _ _
      have t2 : decide ((H : Int) ≤ (y : Int)) = false := decide_eq_false (by omega)
      by_cases b3 : n ≤ z
      · have t3 : decide ((n : Int) ≤ (z : Int)) = true := decide_eq_true (by omega)
        rw [puts_no (G := fun j => some (nib kind v j)) hG (.inr (.inr (by rw [HLN.out]; exact b3)))] at hE9
        have HE8 := Lib.hid hE9
        clear hE9 hG HE9
        have r0 := hp_cell (j := 0) HS1.out.res rfl
        have r1 := hp_cell (j := 1) HS1.out.res rfl
        have r2 := hp_cell (j := 2) HS1.out.res rfl
        have rf := hp_froz HS1.out.res
        go_wp2_with fail
        refine hret _ _ ?_
        refine bodyPost_ret (v := .tuple #[.agg #[.int .i64 0, .int .i64 0, .slice none 0 0], .int .i64 4]) (by rw [results_cell_tmp rfl]; go_simp) rfl ?_
        exact ru_bad (k := 4) (by have h := HRUN.out (by rw [HE8.out]; simp); rw [h, HE8.out]) (by decide) HS1.out.bel _ _ _
      have t3 : decide ((n : Int) ≤ (z : Int)) = false := decide_eq_false (by omega)
      rw [puts_yes (G := fun j => some (nib kind v j)) hG (by rw [HLN.out]; omega)] at hE9
      have HE8 := Lib.hid hE9
      clear hE9 hG HE9
      obtain ⟨bL, oL, hLe, hbL, hcL⟩ := HS1.out.col.cell (by omega)
      subst hLe
      obtain ⟨P, hP⟩ : ∃ P, L[z]? = some P := ⟨L[z]'(by rw [HLN.out]; omega), List.getElem?_eq_getElem (by rw [HLN.out]; omega)⟩
      have hpp : ∀ j, j < 4 → wr.cell? ⟨bL, oL + (z * 4 + j), none⟩ = (cP P)[j]? := fun j hj => (hcL (z * 4 + j) (by omega)).trans (cellsP_get L z P hP j hj)
      have p0 := hpp 0 (by omega)
      have p1 := hpp 1 (by omega)
      have p2 := hpp 2 (by omega)
      have p3 := hpp 3 (by omega)
      simp only [cP, List.getElem?_cons_zero, List.getElem?_cons_succ, ← Nat.add_assoc, Nat.add_zero] at p0 p1 p2 p3
      have hzl : (z : Int) < (n : Int) := by omega
      have HPP := Lib.hid hP
      clear hcL hpp hP hbL
      have k0 := hp_cell (j := 0) HS1.out.ras rfl
      have k1 := hp_cell (j := 1) HS1.out.ras rfl
      have k2 := hp_cell (j := 2) HS1.out.ras rfl
      obtain ⟨yy, hyy⟩ : ∃ yy, yy = H - 1 - y := ⟨_, rfl⟩
      have z1 : IntKind.i64.wrap ((H : Int) - 1) = (H : Int) - 1 := IntWalk.i64_in _ (by omega)
      have z2 : IntKind.i64.wrap ((H : Int) - 1 - (y : Int)) = (yy : Int) := by rw [IntWalk.i64_in _ (by omega)]; omega
      have hyyH : yy < H := by omega
      have HYY := Lib.hid hyy
      clear hyy
      go_upto_region 39 with fail
      go_still_tail 12, (by kernel_rfl)
      repeat still_step
      try refine wpStill_nil ?_
      change wpList _ _ _ _ _ wr.drew
      clear p0 p1 p2 p3 k0 k1 k2 z1 z2 hzl c0 c1 c10
      have HSd := Lib.hid HS1.out.drew
      have hds : w.heap.size + 2 ≤ wr.drew.heap.size := lt_heap HSd.out.res
      go_wp2_with fail
      refine (setr_any (W : Nat) (H : Nat) A' n4 cap' ck1 (x1 : Nat) (yy : Nat) P (by unfold In64; omega) (by unfold In64; omega) hn' HCX.out _ HSd.out.own).mono ?_
      rintro e w10 hset
      have hS10 := HSd.out.put hset hds
      obtain ⟨rfl, -, -, -⟩ := hset
      have hsd : setD (W : Nat) (H : Nat) n4 ck1 (x1 : Nat) (yy : Nat) P = setC ck1 ((H - 1 - y) * W + x1) ((L[z]?).getD (0, 0, 0, 0)) := by
        unfold setD
        rw [if_pos (inB_xy HMAY.out (by omega) hyyH), HPP.out, Option.getD_some, ← HYY.out]
        congr 1
      rw [hsd] at hS10
      have HS10 := Lib.hid hS10
      clear hS10 hsd HSd hds
      go_wp2_with fail
      go_roundw
      case rel => exact ⟨i + 1, x1 + 1, _, hin, by go_num, by go_num, by omega, HS10.out, HE8⟩
      case measure => simp [intOf]; omega
    · obtain rfl : nn = i := by omega
      have hE2 := hE1.out
      rw [Nat.sub_self, putsB] at hE2
      have HE3 := Lib.hid hE2
      clear hE1 hE2
      go_wp2_with fail
      exact hnorm x1 ck1 wr _ _ _ _ _ _ _ _ _ _ _ _ _ _ _ _ _ _ _ _ _ _ _ _ _ _ _ _ _ _ _ _ _ _ _ _ _ _ _ _ _ _ _ _ _ _ _ _ _ _ _ _ _ _ _ _ _ hx1 HS1 HE3
noncomputable def blkB : Code := ((Tryd.f27.body.bind (findBlock 3)).getD .skip)
set_option maxRecDepth 1000000 in
set_option maxHeartbeats 8000000 in
theorem runs_B (W H bits kind off n4 cap' rb : Nat) (A' : Option Addr) (dn : Bool) (f : Nat → Nat) (AC : Option Addr) (n cc : Nat) (L : List P4) (bk of m cap : Nat) (b : Nat → Nat) (HBT : Hid (∀ i, b i < 256)) (HKD : Hid (kind = 1 ∨ kind = 2)) (hW : 1 ≤ W ∧ W ≤ 256) (hH : 1 ≤ H ∧ H ≤ 256) (HLN : Hid (L.length = n)) (hn2 : n ≤ 256) (hm : m ≤ 262144) (hmc : m ≤ cap) (hcap : cap ≤ 2 ^ 63 - 1) (hn' : n4 ≤ cap') (HCX : Hid (cap' ≤ maxLen)) (HMAY : Hid (mayB (W : Nat) (H : Nat) n4 = true)) (w : World) (R : (Nat → Nat) × Nat)
    (p2 x y nn v : Nat) (ck : Nat → Nat) (hx : x ≤ W) (hp2 : p2 ≤ m) (hy : y ≤ m + 257) (hnn8 : nn < 256) (hv8 : v < 256) (R1 : Nat × (Nat → Nat) × Nat) (HR1 : Hid (R1 = putsB W H L y (oneB m kind p2 b) v 0 x ck)) (HRUN : Hid (R1.2.2 ≠ 0 → R = (noB, R1.2.2))) (w6 : World) (HS : Hid (RuS w rb W H n4 cap' A' (infoC (W : Nat) (H : Nat) bits kind off dn f (.slice AC n cc)) (some ⟨bk, of, none⟩) m b AC n cc L ck w6)) (Q : Exit → Act → World → Prop)
    (hret : ∀ a w', bodyPost Tryd.prog Tryd.f27 (picPost W H R w) .ret a w' → Q .ret a w') (v0 v3 v5 v7 v13 v14 v16 v17 v18 v19 v20 v21 v22 v23 v24 v25 v26 v27 v28 v29 v30 v31 v32 v33 v34 v35 v36 v37 v38 v39 v40 v41 v42 v43 v44 v45 v46 v47 v48 v49 v50 v51 v52 v53 v54 v55 v56 v57 v58 v59 v60 v61 v62 v63 v64 v65 v66 v67 v68 v69 v70 v71 v72 v73 v74 v75 v76 v77 v78 v79 v80 v81 v82 v83 v84 v85 v86 v87 v88 v89 v90 v91 v92 v93 v94 v95 v96 v97 v98 v99 v100 v101 v102 v103 v104 v105 v106 v107 v108 v109 v110 v111 v112 v113 v114 v115 v116 v117 v118 v119 v120 v121 v122 v123 v124 v125 v126 v127 v128 v129 v130 v131 v132 v133 v134 v135 v136 v137 v138 v139 v140 v141 v142 v143 v144 v145 v146 v147 v148 v149 v150 v151 v152 v153 v154 v155 v156 v157 v158 v159 v160 v161 v162 v163 v164 v165 v166 v167 v168 v169 v170 v171 v172 v173 v174 v175 v176 v177 v178 v179 v180 v181 v182 v183 v184 v185 v186 v187 v188 v189 v190 v191 v192 v193 v194 v195 v196 v197 v198 v199 v200 v201 v202 v203 v204 v205 v206 v207 v208 v209 v210 v211 v212 v213 v214 v215 v216 v217 v218 v219 v220 v221 v222 v223 v224 v225 v226 v227 v228 v229 v230 v231 v232 v233 v234 : Value)
    (hnorm : ∀ (x1 : Nat) (ck1 : Nat → Nat) (w' : World) (u5 u15 u16 u17 u46 u47 u48 u49 u50 u51 u52 u53 u54 u55 u56 u57 u58 u59 u60 u61 u62 u63 u64 u65 u66 u67 u68 u69 u70 u71 u72 u73 u74 u75 u76 u77 u78 u79 u80 u81 u82 u83 u84 u85 u86 u87 u88 u89 u90 u91 u92 u93 u94 u95 u96 u97 u98 u99 u100 u101 u102 u103 u104 u105 u106 u107 u108 u109 u110 u111 u112 u113 u114 u115 u116 u117 u118 : Value), x1 ≤ W → Hid (RuS w rb W H n4 cap' A' (infoC (W : Nat) (H : Nat) bits kind off dn f (.slice AC n cc)) (some ⟨bk, of, none⟩) m b AC n cc L ck1 w') → Hid (R1 = (x1, ck1, 0)) → Q .normal ⟨#[v0, .slice (some ⟨bk, of, none⟩) m cap, .pointer (some ⟨w.heap.size, 0, none⟩), v3, .pointer (some ⟨w.heap.size + 1, 0, none⟩), u5, .pointer (some ⟨rb, 0, none⟩), v7, .int .i64 (p2 : Nat), .int .i64 (x1 : Nat), .int .i64 (y : Nat), .int .i64 (nn : Nat), .int .i64 (v : Nat), v13, v14, u15, u16, u17, v18, v19, v20, v21, v22, v23, v24, v25, v26, v27, v28, v29, v30, v31, v32, v33, v34, v35, v36, v37, v38, v39, v40, v41, v42, v43, v44, v45, u46, u47, u48, u49, u50, u51, u52, u53, u54, u55, u56, u57, u58, u59, u60, u61, u62, u63, u64, u65, u66, u67, u68, u69, u70, u71, u72, u73, u74, u75, u76, u77, u78, u79, u80, u81, u82, u83, u84, u85, u86, u87, u88, u89, u90, u91, u92, u93, u94, u95, u96, u97, u98, u99, u100, u101, u102, u103, u104, u105, u106, u107, u108, u109, u110, u111, u112, u113, u114, u115, u116, u117, u118, v119, v120, v121, v122, v123, v124, v125, v126, v127, v128, v129, v130, v131, v132, v133, v134, v135, v136, v137, v138, v139, v140, v141, v142, v143, v144, v145, v146, v147, v148, v149, v150, v151, v152, v153, v154, v155, v156, v157, v158, v159, v160, v161, v162, v163, v164, v165, v166, v167, v168, v169, v170, v171, v172, v173, v174, v175, v176, v177, v178, v179, v180, v181, v182, v183, v184, v185, v186, v187, v188, v189, v190, v191, v192, v193, v194, v195, v196, v197, v198, v199, v200, v201, v202, v203, v204, v205, v206, v207, v208, v209, v210, v211, v212, v213, v214, v215, v216, v217, v218, v219, v220, v221, v222, v223, v224, v225, v226, v227, v228, v229, v230, v231, v232, v233, v234], []⟩ w') :
    Code.wp Tryd.prog blkB Q ⟨#[v0, .slice (some ⟨bk, of, none⟩) m cap, .pointer (some ⟨w.heap.size, 0, none⟩), v3, .pointer (some ⟨w.heap.size + 1, 0, none⟩), v5, .pointer (some ⟨rb, 0, none⟩), v7, .int .i64 (p2 : Nat), .int .i64 (x : Nat), .int .i64 (y : Nat), .int .i64 (nn : Nat), .int .i64 (v : Nat), v13, v14, .int .i64 0, v16, v17, v18, v19, v20, v21, v22, v23, v24, v25, v26, v27, v28, v29, v30, v31, v32, v33, v34, v35, v36, v37, v38, v39, v40, v41, v42, v43, v44, v45, v46, v47, v48, v49, v50, v51, v52, v53, v54, v55, v56, v57, v58, v59, v60, v61, v62, v63, v64, v65, v66, v67, v68, v69, v70, v71, v72, v73, v74, v75, v76, v77, v78, v79, v80, v81, v82, v83, v84, v85, v86, v87, v88, v89, v90, v91, v92, v93, v94, v95, v96, v97, v98, v99, v100, v101, v102, v103, v104, v105, v106, v107, v108, v109, v110, v111, v112, v113, v114, v115, v116, v117, v118, v119, v120, v121, v122, v123, v124, v125, v126, v127, v128, v129, v130, v131, v132, v133, v134, v135, v136, v137, v138, v139, v140, v141, v142, v143, v144, v145, v146, v147, v148, v149, v150, v151, v152, v153, v154, v155, v156, v157, v158, v159, v160, v161, v162, v163, v164, v165, v166, v167, v168, v169, v170, v171, v172, v173, v174, v175, v176, v177, v178, v179, v180, v181, v182, v183, v184, v185, v186, v187, v188, v189, v190, v191, v192, v193, v194, v195, v196, v197, v198, v199, v200, v201, v202, v203, v204, v205, v206, v207, v208, v209, v210, v211, v212, v213, v214, v215, v216, v217, v218, v219, v220, v221, v222, v223, v224, v225, v226, v227, v228, v229, v230, v231, v232, v233, v234], []⟩ w6 := by
  conv => arg 2; whnf
  go_wp2_with fail
  go_loopw [9, 15] (fun s9 s15 wr => ∃ (i x1 : Nat) (ck1 : Nat → Nat), i ≤ v ∧ s15 = .int .i64 (i : Nat) ∧ s9 = .int .i64 (x1 : Nat) ∧ x1 ≤ W ∧ RuS w rb W H n4 cap' A' (infoC (W : Nat) (H : Nat) bits kind off dn f (.slice AC n cc)) (some ⟨bk, of, none⟩) m b AC n cc L ck1 wr ∧ Hid (R1 = putsB W H L y (oneB m kind p2 b) (v - i) i x1 ck1)) (fun _ s15 _ => v - (intOf s15).toNat)
  case atStart => exact ⟨0, x, ck, by omega, rfl, rfl, hx, HS.out, HR1⟩
  case round =>
    clear HS HR1
    obtain ⟨i, x1, ck1, hi, rfl, rfl, hx1, hS1, hE1⟩ := hrel
    have HS1 := Lib.hid hS1
    clear hS1
    by_cases hin : i < v
    · have hE2 := hE1.out
      rw [show v - i = (v - (i + 1)) + 1 by omega] at hE2
      have HE9 := Lib.hid hE2
      clear hE1 hE2
      obtain ⟨kk, hkk⟩ : ∃ kk, kk = p2 + (if kind = 2 then i / 2 else i) := ⟨_, rfl⟩
      have hkkb : kk ≤ p2 + i := by
        rw [hkk]
        split <;> omega
      have HKX := Lib.hid hkk
      clear hkk
      have c3 : wr.cell? ⟨w.heap.size, 3, none⟩ = some (.int .i64 (kind : Nat)) := hp_cell HS1.out.box rfl
      go_upto_if 56 with fail
      clear c3
      go_cut [16] from 57 to 60 (fun s wx => s = .int .i64 (kk : Nat) ∧ wx = wr)
      case first =>
        rcases HKD.out with hk1 | hk2
        · have q1 : ((kind : Int) == 2) = false := beq_eq_false_iff_ne.2 (by omega)
          have HV3 : Hid (p2 + i = kk) := Lib.hid (by rw [HKX.out, if_neg (by omega)])
          have y3 : (p2 : Int) + (i : Int) = (kk : Int) := by have := HV3.out; omega
          clear hk1
          go_wp2_with fail
          go_meet
          exact ⟨by go_num, rfl⟩
        · have q1 : ((kind : Int) == 2) = true := beq_iff_eq.2 (by omega)
          obtain ⟨i2, hi2⟩ : ∃ i2, i2 = i / 2 := ⟨_, rfl⟩
          have g1 : (i : Int) / 2 = (i2 : Int) := by omega
          have g2 : Int.tdiv (i : Int) 2 = (i2 : Int) := by rw [Int.tdiv_eq_ediv_of_nonneg (by omega), g1]
          have y3 : (p2 : Int) + (i2 : Int) = (kk : Int) := by
            have := HKX.out
            rw [if_pos hk2] at this
            omega
          clear hk2 hi2
          go_wp2_with fail
          go_meet
          exact ⟨rfl, rfl⟩
      case rest =>
      obtain ⟨rfl, hwc⟩ := hcut
      obtain rfl : wr = wc := hwc.symm
      clear hwc
      by_cases hm9 : m ≤ kk
      · have t1 : decide ((m : Int) ≤ (kk : Int)) = true := decide_eq_true (by omega)
        have hG : oneB m kind p2 b i = none := by
          unfold oneB
          rw [if_pos (by rw [← HKX.out]; exact hm9)]
        have hE9 := HE9.out
        rw [puts_none (G := oneB m kind p2 b) hG] at hE9
        have HE8 := Lib.hid hE9
        clear hE9 hG HE9
        have r0 := hp_cell (j := 0) HS1.out.res rfl
        have r1 := hp_cell (j := 1) HS1.out.res rfl
        have r2 := hp_cell (j := 2) HS1.out.res rfl
        have rf := hp_froz HS1.out.res
        go_wp2_with fail
        refine hret _ _ ?_
        refine bodyPost_ret (v := .tuple #[.agg #[.int .i64 0, .int .i64 0, .slice none 0 0], .int .i64 2]) (by rw [results_cell_tmp rfl]; go_simp) rfl ?_
        exact ru_bad (k := 2) (by have h := HRUN.out (by rw [HE8.out]; simp); rw [h, HE8.out]) (by decide) HS1.out.bel _ _ _
      have t1 : decide ((m : Int) ≤ (kk : Int)) = false := decide_eq_false (by omega)
      obtain ⟨bk', of', hBe, hbk, hcl⟩ := HS1.out.arg (by omega)
      cases hBe
      have c0 := hcl kk (by omega)
      obtain ⟨u, hu⟩ : ∃ u, u = b kk := ⟨_, rfl⟩
      have hu8 : u < 256 := by rw [hu]; exact HBT.out kk
      rw [← hu] at c0
      have HU := Lib.hid hu
      have i2 : (kk : Int) < (m : Int) := by omega
      clear hcl hu hbk
      go_upto_region 16 with fail
      go_cut [78] from 71 to 78 (fun s wx => s = .bool (decide (kind = 2 ∧ i % 2 = 0)) ∧ wx = wr)
      case first =>
        have c3 : wr.cell? ⟨w.heap.size, 3, none⟩ = some (.int .i64 (kind : Nat)) := hp_cell HS1.out.box rfl
        rcases HKD.out with hk1 | hk2
        · have q1 : ((kind : Int) == 2) = false := beq_eq_false_iff_ne.2 (by omega)
          have HV : Hid (false = decide (kind = 2 ∧ i % 2 = 0)) := Lib.hid (decide_eq_false (by omega)).symm
          clear hk1
          go_wp2_with fail
          go_meet
          exact ⟨by rw [← HV.out], rfl⟩
        · have q1 : ((kind : Int) == 2) = true := beq_iff_eq.2 (by omega)
          obtain ⟨r2, hr2⟩ : ∃ r2, r2 = i % 2 := ⟨_, rfl⟩
          have g1 : (i : Int) % 2 = (r2 : Int) := by omega
          have g2 : Int.tmod (i : Int) 2 = (r2 : Int) := by rw [Int.tmod_eq_emod_of_nonneg (by omega), g1]
          by_cases hr0 : r2 = 0
          · have g3 : ((r2 : Int) == 0) = true := beq_iff_eq.2 (by omega)
            have HV : Hid (true = decide (kind = 2 ∧ i % 2 = 0)) := Lib.hid (decide_eq_true (by omega)).symm
            clear hk2 hr0 hr2
            go_wp2_with fail
            go_meet
            exact ⟨by rw [← HV.out], rfl⟩
          · have g3 : ((r2 : Int) == 0) = false := beq_eq_false_iff_ne.2 (by omega)
            have HV : Hid (false = decide (kind = 2 ∧ i % 2 = 0)) := Lib.hid (decide_eq_false (by omega)).symm
            clear hk2 hr0 hr2
            go_wp2_with fail
            go_meet
            exact ⟨by rw [← HV.out], rfl⟩
      case rest =>
      obtain ⟨rfl, hwc⟩ := hcut
      obtain rfl : wr = wc := hwc.symm
      clear hwc
      obtain ⟨ev, hev⟩ : ∃ ev, ev = decide (kind = 2 ∧ i % 2 = 0) := ⟨_, rfl⟩
      rw [← hev]
      have HEV := Lib.hid hev
      clear hev
      obtain ⟨z, hz⟩ : ∃ z, z = nib kind u i := ⟨_, rfl⟩
      have hz8 : z < 256 := by
        rw [hz]
        unfold nib
        (repeat' split) <;> omega
      have HZ := Lib.hid hz
      clear hz
      go_upto_if 78 with fail
      go_cut [17] from 79 to 85 (fun s wx => s = .int .i64 (z : Nat) ∧ wx = wr)
      case first =>
        have c3 : wr.cell? ⟨w.heap.size, 3, none⟩ = some (.int .i64 (kind : Nat)) := hp_cell HS1.out.box rfl
        cases ev with
        | true =>
          have g1 : (u : Int) / 16 = (z : Int) := by
            have h := of_decide_eq_true HEV.out.symm
            have h2 := HZ.out
            rw [nib, if_pos h.1, if_pos h.2] at h2
            omega
          go_wp2_with fail
          go_meet
          exact ⟨rfl, rfl⟩
        | false =>
          rcases HKD.out with hk1 | hk2
          · have q1 : ((kind : Int) == 2) = false := beq_eq_false_iff_ne.2 (by omega)
            have HVZ : Hid (u = z) := Lib.hid (by rw [HZ.out, nib, if_neg (by omega)])
            clear hk1
            go_wp2_with fail
            go_meet
            exact ⟨by rw [HVZ.out], rfl⟩
          · have q1 : ((kind : Int) == 2) = true := beq_iff_eq.2 (by omega)
            have g1 := and15 u (by omega)
            have g2 : u % 16 = z := by
              have h := of_decide_eq_false HEV.out.symm
              have h2 := HZ.out
              rw [nib, if_pos hk2, if_neg (fun h3 => h ⟨hk2, h3⟩)] at h2
              exact h2.symm
            rw [g2] at g1
            clear hk2 g2
            go_wp2_with fail
            go_meet
            exact ⟨rfl, rfl⟩
      case rest =>
      obtain ⟨rfl, hwc⟩ := hcut
      obtain rfl : wr = wc := hwc.symm
      clear hwc
      clear c0 t1 i2
      have c0 : wr.cell? ⟨w.heap.size, 0, none⟩ = some (.int .i64 (W : Nat)) := hp_cell HS1.out.box rfl
      have c1 : wr.cell? ⟨w.heap.size, 1, none⟩ = some (.int .i64 (H : Nat)) := hp_cell HS1.out.box rfl
      have c10 : wr.cell? ⟨w.heap.size, 10, none⟩ = some (.slice AC n cc) := hp_cell HS1.out.box rfl
      have hG : oneB m kind p2 b i = some z := by
        unfold oneB
        rw [if_neg (by rw [← HKX.out]; omega), ← HKX.out, ← HU.out, HZ.out]
      have hE9 := HE9.out
      by_cases b1 : W ≤ x1
      · have t1 : decide ((W : Int) ≤ (x1 : Int)) = true := decide_eq_true (by omega)
        rw [puts_no (G := oneB m kind p2 b) hG (.inl b1)] at hE9
        have HE8 := Lib.hid hE9
        clear hE9 hG HE9
        have r0 := hp_cell (j := 0) HS1.out.res rfl
        have r1 := hp_cell (j := 1) HS1.out.res rfl
        have r2 := hp_cell (j := 2) HS1.out.res rfl
        have rf := hp_froz HS1.out.res
        go_wp2_with fail
        refine hret _ _ ?_
        refine bodyPost_ret (v := .tuple #[.agg #[.int .i64 0, .int .i64 0, .slice none 0 0], .int .i64 4]) (by rw [results_cell_tmp rfl]; go_simp) rfl ?_
        exact ru_bad (k := 4) (by have h := HRUN.out (by rw [HE8.out]; simp); rw [h, HE8.out]) (by decide) HS1.out.bel _ _ _
      have t1 : decide ((W : Int) ≤ (x1 : Int)) = false := decide_eq_false (by omega)
      by_cases b2 : H ≤ y
      · have t2 : decide ((H : Int) ≤ (y : Int)) = true := decide_eq_true (by omega)
        rw [puts_no (G := oneB m kind p2 b) hG (.inr (.inl b2))] at hE9
        have HE8 := Lib.hid hE9
        clear hE9 hG HE9
        have r0 := hp_cell (j := 0) HS1.out.res rfl
        have r1 := hp_cell (j := 1) HS1.out.res rfl
        have r2 := hp_cell (j := 2) HS1.out.res rfl
        have rf := hp_froz HS1.out.res
        go_wp2_with fail
        refine hret _ _ ?_
        refine bodyPost_ret (v := .tuple #[.agg #[.int .i64 0, .int .i64 0, .slice none 0 0], .int .i64 4]) (by rw [results_cell_tmp rfl]; go_simp) rfl ?_
        exact ru_bad (k := 4) (by have h := HRUN.out (by rw [HE8.out]; simp); rw [h, HE8.out]) (by decide) HS1.out.bel _ _ _
      have t2 : decide ((H : Int) ≤ (y : Int)) = false := decide_eq_false (by omega)
      by_cases b3 : n ≤ z
      · have t3 : decide ((n : Int) ≤ (z : Int)) = true := decide_eq_true (by omega)
        rw [puts_no (G := oneB m kind p2 b) hG (.inr (.inr (by rw [HLN.out]; exact b3)))] at hE9
        have HE8 := Lib.hid hE9
        clear hE9 hG HE9
        have r0 := hp_cell (j := 0) HS1.out.res rfl
        have r1 := hp_cell (j := 1) HS1.out.res rfl
        have r2 := hp_cell (j := 2) HS1.out.res rfl
        have rf := hp_froz HS1.out.res
        go_wp2_with fail
        refine hret _ _ ?_
        refine bodyPost_ret (v := .tuple #[.agg #[.int .i64 0, .int .i64 0, .slice none 0 0], .int .i64 4]) (by rw [results_cell_tmp rfl]; go_simp) rfl ?_
        exact ru_bad (k := 4) (by have h := HRUN.out (by rw [HE8.out]; simp); rw [h, HE8.out]) (by decide) HS1.out.bel _ _ _
      have t3 : decide ((n : Int) ≤ (z : Int)) = false := decide_eq_false (by omega)
      rw [puts_yes (G := oneB m kind p2 b) hG (by rw [HLN.out]; omega)] at hE9
      have HE8 := Lib.hid hE9
      clear hE9 hG HE9
      obtain ⟨bL, oL, hLe, hbL, hcL⟩ := HS1.out.col.cell (by omega)
      subst hLe
      obtain ⟨P, hP⟩ : ∃ P, L[z]? = some P := ⟨L[z]'(by rw [HLN.out]; omega), List.getElem?_eq_getElem (by rw [HLN.out]; omega)⟩
      have hpp : ∀ j, j < 4 → wr.cell? ⟨bL, oL + (z * 4 + j), none⟩ = (cP P)[j]? := fun j hj => (hcL (z * 4 + j) (by omega)).trans (cellsP_get L z P hP j hj)
      have p0 := hpp 0 (by omega)
      have p1 := hpp 1 (by omega)
      have p2 := hpp 2 (by omega)
      have p3 := hpp 3 (by omega)
      simp only [cP, List.getElem?_cons_zero, List.getElem?_cons_succ, ← Nat.add_assoc, Nat.add_zero] at p0 p1 p2 p3
      have hzl : (z : Int) < (n : Int) := by omega
      have HPP := Lib.hid hP
      clear hcL hpp hP hbL
      have k0 := hp_cell (j := 0) HS1.out.ras rfl
      have k1 := hp_cell (j := 1) HS1.out.ras rfl
      have k2 := hp_cell (j := 2) HS1.out.ras rfl
      obtain ⟨yy, hyy⟩ : ∃ yy, yy = H - 1 - y := ⟨_, rfl⟩
      have z1 : IntKind.i64.wrap ((H : Int) - 1) = (H : Int) - 1 := IntWalk.i64_in _ (by omega)
      have z2 : IntKind.i64.wrap ((H : Int) - 1 - (y : Int)) = (yy : Int) := by rw [IntWalk.i64_in _ (by omega)]; omega
      have hyyH : yy < H := by omega
      have HYY := Lib.hid hyy
      clear hyy
      go_upto_region 22 with fail
      go_still_tail 12, (by kernel_rfl)
      repeat still_step
      try refine wpStill_nil ?_
      change wpList _ _ _ _ _ wr.drew
      clear p0 p1 p2 p3 k0 k1 k2 z1 z2 hzl c0 c1 c10
      have HSd := Lib.hid HS1.out.drew
      have hds : w.heap.size + 2 ≤ wr.drew.heap.size := lt_heap HSd.out.res
      go_wp2_with fail
      refine (setr_any (W : Nat) (H : Nat) A' n4 cap' ck1 (x1 : Nat) (yy : Nat) P (by unfold In64; omega) (by unfold In64; omega) hn' HCX.out _ HSd.out.own).mono ?_
      rintro e w10 hset
      have hS10 := HSd.out.put hset hds
      obtain ⟨rfl, -, -, -⟩ := hset
      have hsd : setD (W : Nat) (H : Nat) n4 ck1 (x1 : Nat) (yy : Nat) P = setC ck1 ((H - 1 - y) * W + x1) ((L[z]?).getD (0, 0, 0, 0)) := by
        unfold setD
        rw [if_pos (inB_xy HMAY.out (by omega) hyyH), HPP.out, Option.getD_some, ← HYY.out]
        congr 1
      rw [hsd] at hS10
      have HS10 := Lib.hid hS10
      clear hS10 hsd HSd hds
      go_wp2_with fail
      go_roundw
      case rel => exact ⟨i + 1, x1 + 1, _, hin, by go_num, by go_num, by omega, HS10.out, HE8⟩
      case measure => simp [intOf]; omega
    · obtain rfl : v = i := by omega
      have hE2 := hE1.out
      rw [Nat.sub_self, putsB] at hE2
      have HE3 := Lib.hid hE2
      clear hE1 hE2
      go_wp2_with fail
      exact hnorm x1 ck1 wr _ _ _ _ _ _ _ _ _ _ _ _ _ _ _ _ _ _ _ _ _ _ _ _ _ _ _ _ _ _ _ _ _ _ _ _ _ _ _ _ _ _ _ _ _ _ _ _ _ _ _ _ _ _ _ _ _ _ _ _ _ _ _ _ _ _ _ _ _ _ _ _ _ _ _ _ _ hx1 HS1 HE3
end Go.Proofs.YtdooefnckdklmaaDoor
